/- What proof.EncodeGap, relay.One and relay.Gap come to. Conditions: as each theorem says. -/
import Derived.Test.YtflioeagjefkmaaDoorEnc
set_option linter.all false
namespace Go.Proofs
open Go.Fw Go.RowKit
attribute [local irreducible] TL T TS Ev Ret

/-- a gap's bytes, and the error's number -/
def encGo : List (Option Pr) → Nat → List UInt8 → List UInt8 × Int
  | [], _, b => (b, 0)
  | none :: os, i, b => encGo os (i + 1) b
  | some p :: os, i, b => if (encP p).2 = 0 then encGo os (i + 1) (putB b (UInt8.ofNat (i + 1)) (encP p).1) else ([], (encP p).2)
def encG (g : Gp) : List UInt8 × Int := encGo [g.left, g.right] 0 []
/-- what proof.Encode asks of a proof -/
structure Pr.ok (p : Pr) : Prop where
  key : p.key.length ≤ 1000
  val : p.val.length ≤ 1000
  turns : ∀ t ∈ p.turns, t.h < 2 ^ 62 ∧ t.s < 2 ^ 64
  others : ∀ t ∈ p.turns, t.other.length = 32

theorem packT_len : ∀ ts : List Tn, (∀ t ∈ ts, t.other.length = 32) → (packB (ts.map encT)).length ≤ ts.length * 67 := by
  intro ts hts
  induction ts with
  | nil => simp [packB]
  | cons t ts ih =>
    have h1 := encT_len t (hts t (by simp))
    have h2 := ih fun t ht => hts t (by simp [ht])
    simp only [List.map_cons, packB, List.length_cons, List.length_append]; omega
theorem encP_len {p : Pr} (h : p.ok) : (encP p).1.length ≤ 7000 := by
  unfold encP
  split
  · simp
  · split
    · simp
    · have h1 := packT_len p.turns h.others
      have h2 := putB_len [] 1 p.key
      have h3 := putB_len (putB [] 1 p.key) 2 p.val
      have h4 := putB_len (putB (putB [] 1 p.key) 2 p.val) 3 (packB (p.turns.map encT))
      have h5 := h.key
      have h6 := h.val
      simp only [List.length_nil] at h2
      show List.length (putB (putB (putB [] 1 p.key) 2 p.val) 3 (packB (p.turns.map encT))) ≤ 7000
      omega

set_option maxRecDepth 20000 in
set_option maxHeartbeats 2000000 in
theorem EncodeGap_ret (g : Gp) (u : Value) (w : World) (hu : IsG Any w g u) (hl : ∀ p, g.left = some p → p.ok) (hr : ∀ p, g.right = some p → p.ok) :
    Ret Tryd.prog 13 #[u] w fun r w' => Ext w w' ∧ ∃ q, r = .tuple #[q, .int .i64 (encG g).2] ∧ B0 w' q (encG g).1 := by
  obtain ⟨lp, rp, rfl, h1, h2⟩ := hu
  obtain ⟨lq, rfl, _⟩ := h1.ptr
  obtain ⟨rq, rfl, _⟩ := h2.ptr
  refine Ret.of_T Tryd.func13 rfl Tryd.ntmps13 Tryd.results13 rfl ?_
  repeat (first | refine TL.move rfl rfl rfl ?_ | refine TL.assign rfl rfl rfl ?_ | refine TL.nilCheck rfl rfl rfl ?_ | refine TL.fieldAddr rfl rfl rfl ?_ | refine TL.convI rfl rfl rfl ?_ | refine TL.cmpI rfl rfl rfl rfl rfl ?_ | refine TL.arith rfl rfl rfl rfl rfl ?_ | refine TL.lenS rfl rfl rfl ?_ | refine TL.lenStr rfl rfl rfl ?_ | refine TL.not rfl rfl rfl ?_ | refine TL.skipG rfl rfl ?_ | refine TL.pickT rfl rfl rfl rfl ?_ | refine TL.pickF rfl rfl rfl rfl ?_ | refine TL.extract rfl rfl rfl rfl ?_ | refine TL.maxI rfl rfl rfl rfl ?_ | refine TL.minI rfl rfl rfl rfl ?_ | refine TL.nilCheckF rfl rfl rfl ?_ | refine TL.nil ?_ | refine T.seqK fun K hK => ?_ | (refine T.regionO fun ops => ?_) | refine T.condT rfl ?_ | refine T.condF rfl ?_ | refine T.block ?_ | refine T.skip ?_ | refine T.ret ?_ | refine T.exit ?_ | (refine hK _ _ ?_; clear hK K) | clear hK K | clear ops)
  refine TL.box rfl rfl rfl fun b1 w1 hal1 => ?_
  have hR1 : Row w1 b1 [.pointer lq, .pointer rq] 40 (0, 0) := hal1.row
  have hw1 : Ext w w1 := hal1.below
  clear hal1
  repeat (first | refine TL.move rfl rfl rfl ?_ | refine TL.assign rfl rfl rfl ?_ | refine TL.nilCheck rfl rfl rfl ?_ | refine TL.fieldAddr rfl rfl rfl ?_ | refine TL.convI rfl rfl rfl ?_ | refine TL.cmpI rfl rfl rfl rfl rfl ?_ | refine TL.arith rfl rfl rfl rfl rfl ?_ | refine TL.lenS rfl rfl rfl ?_ | refine TL.lenStr rfl rfl rfl ?_ | refine TL.not rfl rfl rfl ?_ | refine TL.skipG rfl rfl ?_ | refine TL.pickT rfl rfl rfl rfl ?_ | refine TL.pickF rfl rfl rfl rfl ?_ | refine TL.extract rfl rfl rfl rfl ?_ | refine TL.maxI rfl rfl rfl rfl ?_ | refine TL.minI rfl rfl rfl rfl ?_ | refine TL.nilCheckF rfl rfl rfl ?_ | refine TL.nil ?_ | refine T.seqK fun K hK => ?_ | (refine T.regionO fun ops => ?_) | refine T.condT rfl ?_ | refine T.condF rfl ?_ | refine T.block ?_ | refine T.skip ?_ | refine T.ret ?_ | refine T.exit ?_ | (refine hK _ _ ?_; clear hK K) | clear hK K | clear ops)
  refine TL.loadR rfl rfl rfl hR1 rfl ?_
  repeat (first | refine TL.move rfl rfl rfl ?_ | refine TL.assign rfl rfl rfl ?_ | refine TL.nilCheck rfl rfl rfl ?_ | refine TL.fieldAddr rfl rfl rfl ?_ | refine TL.convI rfl rfl rfl ?_ | refine TL.cmpI rfl rfl rfl rfl rfl ?_ | refine TL.arith rfl rfl rfl rfl rfl ?_ | refine TL.lenS rfl rfl rfl ?_ | refine TL.lenStr rfl rfl rfl ?_ | refine TL.not rfl rfl rfl ?_ | refine TL.skipG rfl rfl ?_ | refine TL.pickT rfl rfl rfl rfl ?_ | refine TL.pickF rfl rfl rfl rfl ?_ | refine TL.extract rfl rfl rfl rfl ?_ | refine TL.maxI rfl rfl rfl rfl ?_ | refine TL.minI rfl rfl rfl rfl ?_ | refine TL.nilCheckF rfl rfl rfl ?_ | refine TL.nil ?_ | refine T.seqK fun K hK => ?_ | (refine T.regionO fun ops => ?_) | refine T.condT rfl ?_ | refine T.condF rfl ?_ | refine T.block ?_ | refine T.skip ?_ | refine T.ret ?_ | refine T.exit ?_ | (refine hK _ _ ?_; clear hK K) | clear hK K | clear ops)
  refine TL.loadR rfl rfl rfl hR1 rfl ?_
  refine TL.buildSlice rfl rfl rfl rfl rfl (by simp [Value.oneCell']) rfl fun b2 w2 hal => ?_
  have hrd : Rd (· = b2) w2 1 (.slice (some ⟨b2, 0, none⟩) 2 2) 2 [.pointer lq, .pointer rq] := hal.rd rfl (by simp [maxLen])
  have hw2 : Ext w w2 := hw1.trans hal.below
  clear hal
  repeat (first | refine TL.move rfl rfl rfl ?_ | refine TL.assign rfl rfl rfl ?_ | refine TL.nilCheck rfl rfl rfl ?_ | refine TL.fieldAddr rfl rfl rfl ?_ | refine TL.convI rfl rfl rfl ?_ | refine TL.cmpI rfl rfl rfl rfl rfl ?_ | refine TL.arith rfl rfl rfl rfl rfl ?_ | refine TL.lenS rfl rfl rfl ?_ | refine TL.lenStr rfl rfl rfl ?_ | refine TL.not rfl rfl rfl ?_ | refine TL.skipG rfl rfl ?_ | refine TL.pickT rfl rfl rfl rfl ?_ | refine TL.pickF rfl rfl rfl rfl ?_ | refine TL.extract rfl rfl rfl rfl ?_ | refine TL.maxI rfl rfl rfl rfl ?_ | refine TL.minI rfl rfl rfl rfl ?_ | refine TL.nilCheckF rfl rfl rfl ?_ | refine TL.nil ?_ | refine T.seqK fun K hK => ?_ | (refine T.regionO fun ops => ?_) | refine T.condT rfl ?_ | refine T.condF rfl ?_ | refine T.block ?_ | refine T.skip ?_ | refine T.ret ?_ | refine T.exit ?_ | (refine hK _ _ ?_; clear hK K) | clear hK K | clear ops)
  refine T.loop (fun m L w' => ∃ (k : Nat) (bv : Value) (b : List UInt8), Less [(2, nils), (3, .int .i64 0), (4, bv), (13, .slice (some ⟨b2, 0, none⟩) 2 2), (14, .int .i64 2), (15, .int .i64 k)] L ∧ Ext w2 w' ∧ B0 w' bv b ∧ b.length ≤ k * 8000 ∧ encGo ([g.left, g.right].drop k) k b = encG g ∧ k + m = 2) 2
    ⟨0, nils, [], (by repeat (first | exact Less.nil _ | refine Less.cons rfl ?_)), Ext.refl _, By.nil0 _, by simp, rfl, rfl⟩ ?_
  rintro m L w3 ⟨k, bv, b, hL, hw23, hb, hbl, hg, hkm⟩
  have hw3 : Ext w w3 := hw2.trans hw23
  refine T.sub hL ?_
  repeat (first | refine TL.move rfl rfl rfl ?_ | refine TL.assign rfl rfl rfl ?_ | refine TL.nilCheck rfl rfl rfl ?_ | refine TL.fieldAddr rfl rfl rfl ?_ | refine TL.convI rfl rfl rfl ?_ | refine TL.cmpI rfl rfl rfl rfl rfl ?_ | refine TL.arith rfl rfl rfl rfl rfl ?_ | refine TL.lenS rfl rfl rfl ?_ | refine TL.lenStr rfl rfl rfl ?_ | refine TL.not rfl rfl rfl ?_ | refine TL.skipG rfl rfl ?_ | refine TL.pickT rfl rfl rfl rfl ?_ | refine TL.pickF rfl rfl rfl rfl ?_ | refine TL.extract rfl rfl rfl rfl ?_ | refine TL.maxI rfl rfl rfl rfl ?_ | refine TL.minI rfl rfl rfl rfl ?_ | refine TL.nilCheckF rfl rfl rfl ?_ | refine TL.nil ?_ | refine T.seqK fun K hK => ?_ | (refine T.regionO fun ops => ?_) | refine T.condT rfl ?_ | refine T.condF rfl ?_ | refine T.block ?_ | refine T.skip ?_ | refine T.ret ?_ | refine T.exit ?_ | (refine hK _ _ ?_; clear hK K) | clear hK K | clear ops)
  refine T.cond rfl (fun hc => ?_) (fun hc => ?_)
  · have hk : k < 2 := by have := of_decide_eq_true hc; omega
    obtain ⟨o, uq, hou, huq, hP, hok, hdrop⟩ : ∃ (o : Option Pr) (uq : Option Addr), [Value.pointer lq, .pointer rq][k]? = some (.pointer uq) ∧ uq.isNone = o.isNone ∧ PtrP Any w o (.pointer uq) ∧ (∀ p, o = some p → p.ok) ∧ [g.left, g.right].drop k = o :: [g.left, g.right].drop (k + 1) := by
      obtain ⟨_, e1, e2⟩ := h1.ptr
      obtain ⟨_, e3, e4⟩ := h2.ptr
      cases e1; cases e3
      obtain rfl | rfl : k = 0 ∨ k = 1 := by omega
      · exact ⟨g.left, lq, rfl, e2, h1, hl, rfl⟩
      · exact ⟨g.right, rq, rfl, e4, h2, hr, rfl⟩
    rw [hdrop] at hg
    repeat (first | refine TL.move rfl rfl rfl ?_ | refine TL.assign rfl rfl rfl ?_ | refine TL.nilCheck rfl rfl rfl ?_ | refine TL.fieldAddr rfl rfl rfl ?_ | refine TL.convI rfl rfl rfl ?_ | refine TL.cmpI rfl rfl rfl rfl rfl ?_ | refine TL.arith rfl rfl rfl rfl rfl ?_ | refine TL.lenS rfl rfl rfl ?_ | refine TL.lenStr rfl rfl rfl ?_ | refine TL.not rfl rfl rfl ?_ | refine TL.skipG rfl rfl ?_ | refine TL.pickT rfl rfl rfl rfl ?_ | refine TL.pickF rfl rfl rfl rfl ?_ | refine TL.extract rfl rfl rfl rfl ?_ | refine TL.maxI rfl rfl rfl rfl ?_ | refine TL.minI rfl rfl rfl rfl ?_ | refine TL.nilCheckF rfl rfl rfl ?_ | refine TL.nil ?_ | refine T.seqK fun K hK => ?_ | (refine T.regionO fun ops => ?_) | refine T.condT rfl ?_ | refine T.condF rfl ?_ | refine T.block ?_ | refine T.skip ?_ | refine T.ret ?_ | refine T.exit ?_ | (refine hK _ _ ?_; clear hK K) | clear hK K | clear ops)
    refine TL.elem1 rfl rfl (fun _ => rfl) rfl rfl rfl (hrd.ext hw23) rfl hou fun pp => ?_
    repeat (first | refine TL.move rfl rfl rfl ?_ | refine TL.assign rfl rfl rfl ?_ | refine TL.nilCheck rfl rfl rfl ?_ | refine TL.fieldAddr rfl rfl rfl ?_ | refine TL.convI rfl rfl rfl ?_ | refine TL.cmpI rfl rfl rfl rfl rfl ?_ | refine TL.arith rfl rfl rfl rfl rfl ?_ | refine TL.lenS rfl rfl rfl ?_ | refine TL.lenStr rfl rfl rfl ?_ | refine TL.not rfl rfl rfl ?_ | refine TL.skipG rfl rfl ?_ | refine TL.pickT rfl rfl rfl rfl ?_ | refine TL.pickF rfl rfl rfl rfl ?_ | refine TL.extract rfl rfl rfl rfl ?_ | refine TL.maxI rfl rfl rfl rfl ?_ | refine TL.minI rfl rfl rfl rfl ?_ | refine TL.nilCheckF rfl rfl rfl ?_ | refine TL.nil ?_ | refine T.seqK fun K hK => ?_ | (refine T.regionO fun ops => ?_) | refine T.condT rfl ?_ | refine T.condF rfl ?_ | refine T.block ?_ | refine T.skip ?_ | refine T.ret ?_ | refine T.exit ?_ | (refine hK _ _ ?_; clear hK K) | clear hK K | clear ops)
    refine TL.eqPtr rfl rfl rfl rfl ?_
    rw [huq]
    cases o with
    | none =>
      change TL _ _ _ ((_, .bool true) :: _) _ _ _
      rw [encGo] at hg
      repeat (first | refine TL.move rfl rfl rfl ?_ | refine TL.assign rfl rfl rfl ?_ | refine TL.nilCheck rfl rfl rfl ?_ | refine TL.fieldAddr rfl rfl rfl ?_ | refine TL.convI rfl rfl rfl ?_ | refine TL.cmpI rfl rfl rfl rfl rfl ?_ | refine TL.arith rfl rfl rfl rfl rfl ?_ | refine TL.lenS rfl rfl rfl ?_ | refine TL.lenStr rfl rfl rfl ?_ | refine TL.not rfl rfl rfl ?_ | refine TL.skipG rfl rfl ?_ | refine TL.pickT rfl rfl rfl rfl ?_ | refine TL.pickF rfl rfl rfl rfl ?_ | refine TL.extract rfl rfl rfl rfl ?_ | refine TL.maxI rfl rfl rfl rfl ?_ | refine TL.minI rfl rfl rfl rfl ?_ | refine TL.nilCheckF rfl rfl rfl ?_ | refine TL.nil ?_ | refine T.seqK fun K hK => ?_ | (refine T.regionO fun ops => ?_) | refine T.condT rfl ?_ | refine T.condF rfl ?_ | refine T.block ?_ | refine T.skip ?_ | refine T.ret ?_ | refine T.exit ?_ | (refine hK _ _ ?_; clear hK K) | clear hK K | clear ops)
      refine ⟨m - 1, by omega, k + 1, bv, b, ?_, hw23, hb, by omega, hg, by omega⟩
      repeat (first | exact Less.nil _ | refine Less.cons rfl ?_)
      refine Less.cons' rfl (by rw [wr_succ (by omega)]) ?_
      repeat (first | exact Less.nil _ | refine Less.cons rfl ?_)
    | some p =>
      change TL _ _ _ ((_, .bool false) :: _) _ _ _
      obtain ⟨pb, xs, hpe, _, hrow, hxl, hIs⟩ := hP
      have hokp := hok p rfl
      have hpl := encP_len hokp
      rw [hpe]
      repeat (first | refine TL.move rfl rfl rfl ?_ | refine TL.assign rfl rfl rfl ?_ | refine TL.nilCheck rfl rfl rfl ?_ | refine TL.fieldAddr rfl rfl rfl ?_ | refine TL.convI rfl rfl rfl ?_ | refine TL.cmpI rfl rfl rfl rfl rfl ?_ | refine TL.arith rfl rfl rfl rfl rfl ?_ | refine TL.lenS rfl rfl rfl ?_ | refine TL.lenStr rfl rfl rfl ?_ | refine TL.not rfl rfl rfl ?_ | refine TL.skipG rfl rfl ?_ | refine TL.pickT rfl rfl rfl rfl ?_ | refine TL.pickF rfl rfl rfl rfl ?_ | refine TL.extract rfl rfl rfl rfl ?_ | refine TL.maxI rfl rfl rfl rfl ?_ | refine TL.minI rfl rfl rfl rfl ?_ | refine TL.nilCheckF rfl rfl rfl ?_ | refine TL.nil ?_ | refine T.seqK fun K hK => ?_ | refine T.region ?_ | refine T.condT rfl ?_ | refine T.condF rfl ?_ | refine T.block ?_ | refine T.skip ?_ | refine T.ret ?_ | refine T.exit ?_ | (refine hK _ _ ?_; clear hK K) | clear hK K)
      have hIs3 : IsP w3 p (.agg xs.toArray) := hIs.ext hw3
      refine TL.ev rfl rfl (Ev.loadRA (xs := xs) rfl (hrow.keepA hw3) (by rw [List.drop_zero, List.take_of_length_le (by omega)]) hxl) ?_
      refine TL.call rfl rfl rfl (Encode_ret p _ w3 hIs3 (by have := hokp.key; omega) (by have := hokp.val; omega) hokp.turns) ?_
      rintro _ w4 ⟨hw34, x, rfl, hx⟩
      have hw24 : Ext w2 w4 := hw23.trans hw34
      have hwrap : IntKind.u8.wrap (IntKind.i64.wrap ((k : Int) + 1)) = ((UInt8.ofNat (k + 1)).toNat : Int) := by rw [wr_succ (by omega), wr_u8_nat]
      repeat (first | refine TL.move rfl rfl rfl ?_ | refine TL.assign rfl rfl rfl ?_ | refine TL.nilCheck rfl rfl rfl ?_ | refine TL.fieldAddr rfl rfl rfl ?_ | refine TL.convI rfl rfl rfl ?_ | refine TL.cmpI rfl rfl rfl rfl rfl ?_ | refine TL.arith rfl rfl rfl rfl rfl ?_ | refine TL.lenS rfl rfl rfl ?_ | refine TL.lenStr rfl rfl rfl ?_ | refine TL.not rfl rfl rfl ?_ | refine TL.skipG rfl rfl ?_ | refine TL.pickT rfl rfl rfl rfl ?_ | refine TL.pickF rfl rfl rfl rfl ?_ | refine TL.extract rfl rfl rfl rfl ?_ | refine TL.maxI rfl rfl rfl rfl ?_ | refine TL.minI rfl rfl rfl rfl ?_ | refine TL.nilCheckF rfl rfl rfl ?_ | refine TL.nil ?_ | refine T.seqK fun K hK => ?_ | (refine T.regionO fun ops => ?_) | refine T.condT rfl ?_ | refine T.condF rfl ?_ | refine T.block ?_ | refine T.skip ?_ | refine T.ret ?_ | refine T.exit ?_ | (refine hK _ _ ?_; clear hK K) | clear hK K | clear ops)
      refine T.cond rfl (fun he => ?_) (fun he => ?_)
      · have he' : (encP p).2 = 0 := by simpa using he
        rw [encGo, if_pos he'] at hg
        repeat (first | refine TL.move rfl rfl rfl ?_ | refine TL.assign rfl rfl rfl ?_ | refine TL.nilCheck rfl rfl rfl ?_ | refine TL.fieldAddr rfl rfl rfl ?_ | refine TL.convI rfl rfl rfl ?_ | refine TL.cmpI rfl rfl rfl rfl rfl ?_ | refine TL.arith rfl rfl rfl rfl rfl ?_ | refine TL.lenS rfl rfl rfl ?_ | refine TL.lenStr rfl rfl rfl ?_ | refine TL.not rfl rfl rfl ?_ | refine TL.skipG rfl rfl ?_ | refine TL.pickT rfl rfl rfl rfl ?_ | refine TL.pickF rfl rfl rfl rfl ?_ | refine TL.extract rfl rfl rfl rfl ?_ | refine TL.maxI rfl rfl rfl rfl ?_ | refine TL.minI rfl rfl rfl rfl ?_ | refine TL.nilCheckF rfl rfl rfl ?_ | refine TL.nil ?_ | refine T.seqK fun K hK => ?_ | (refine T.regionO fun ops => ?_) | refine T.condT rfl ?_ | refine T.condF rfl ?_ | refine T.block ?_ | refine T.skip ?_ | refine T.ret ?_ | refine T.exit ?_ | (refine hK _ _ ?_; clear hK K) | clear hK K | clear ops)
        refine TL.call (vs := [bv, .int .u8 ((UInt8.ofNat (k + 1)).toNat : Int), x]) rfl rfl (by rw [← hwrap]; rfl) (Put_ok (UInt8.ofNat (k + 1)) bv x b (encP p).1 w4 (By.ext hb hw34) hx (by omega) (by omega)) ?_
        rintro _ w5 ⟨bv', rfl, hb'⟩
        have hpb := putB_len b (UInt8.ofNat (k + 1)) (encP p).1
        repeat (first | refine TL.move rfl rfl rfl ?_ | refine TL.assign rfl rfl rfl ?_ | refine TL.nilCheck rfl rfl rfl ?_ | refine TL.fieldAddr rfl rfl rfl ?_ | refine TL.convI rfl rfl rfl ?_ | refine TL.cmpI rfl rfl rfl rfl rfl ?_ | refine TL.arith rfl rfl rfl rfl rfl ?_ | refine TL.lenS rfl rfl rfl ?_ | refine TL.lenStr rfl rfl rfl ?_ | refine TL.not rfl rfl rfl ?_ | refine TL.skipG rfl rfl ?_ | refine TL.pickT rfl rfl rfl rfl ?_ | refine TL.pickF rfl rfl rfl rfl ?_ | refine TL.extract rfl rfl rfl rfl ?_ | refine TL.maxI rfl rfl rfl rfl ?_ | refine TL.minI rfl rfl rfl rfl ?_ | refine TL.nilCheckF rfl rfl rfl ?_ | refine TL.nil ?_ | refine T.seqK fun K hK => ?_ | (refine T.regionO fun ops => ?_) | refine T.condT rfl ?_ | refine T.condF rfl ?_ | refine T.block ?_ | refine T.skip ?_ | refine T.ret ?_ | refine T.exit ?_ | (refine hK _ _ ?_; clear hK K) | clear hK K | clear ops)
        refine ⟨m - 1, by omega, k + 1, bv', _, ?_, hw24.trans hb'.below, By.any hb'.by_, by omega, hg, by omega⟩
        repeat (first | exact Less.nil _ | refine Less.cons rfl ?_)
        refine Less.cons' rfl (by rw [wr_succ (by omega)]) ?_
        repeat (first | exact Less.nil _ | refine Less.cons rfl ?_)
      · have he' : ¬ (encP p).2 = 0 := by simpa using he
        rw [encGo, if_neg he'] at hg
        repeat (first | refine TL.move rfl rfl rfl ?_ | refine TL.assign rfl rfl rfl ?_ | refine TL.nilCheck rfl rfl rfl ?_ | refine TL.fieldAddr rfl rfl rfl ?_ | refine TL.convI rfl rfl rfl ?_ | refine TL.cmpI rfl rfl rfl rfl rfl ?_ | refine TL.arith rfl rfl rfl rfl rfl ?_ | refine TL.lenS rfl rfl rfl ?_ | refine TL.lenStr rfl rfl rfl ?_ | refine TL.not rfl rfl rfl ?_ | refine TL.skipG rfl rfl ?_ | refine TL.pickT rfl rfl rfl rfl ?_ | refine TL.pickF rfl rfl rfl rfl ?_ | refine TL.extract rfl rfl rfl rfl ?_ | refine TL.maxI rfl rfl rfl rfl ?_ | refine TL.minI rfl rfl rfl rfl ?_ | refine TL.nilCheckF rfl rfl rfl ?_ | refine TL.nil ?_ | refine T.seqK fun K hK => ?_ | (refine T.regionO fun ops => ?_) | refine T.condT rfl ?_ | refine T.condF rfl ?_ | refine T.block ?_ | refine T.skip ?_ | refine T.ret ?_ | refine T.exit ?_ | (refine hK _ _ ?_; clear hK K) | clear hK K | clear ops)
        refine T.cond rfl (fun h => ?_) (fun h => absurd h (by simpa using he'))
        repeat (first | refine TL.move rfl rfl rfl ?_ | refine TL.assign rfl rfl rfl ?_ | refine TL.nilCheck rfl rfl rfl ?_ | refine TL.fieldAddr rfl rfl rfl ?_ | refine TL.convI rfl rfl rfl ?_ | refine TL.cmpI rfl rfl rfl rfl rfl ?_ | refine TL.arith rfl rfl rfl rfl rfl ?_ | refine TL.lenS rfl rfl rfl ?_ | refine TL.lenStr rfl rfl rfl ?_ | refine TL.not rfl rfl rfl ?_ | refine TL.skipG rfl rfl ?_ | refine TL.pickT rfl rfl rfl rfl ?_ | refine TL.pickF rfl rfl rfl rfl ?_ | refine TL.extract rfl rfl rfl rfl ?_ | refine TL.maxI rfl rfl rfl rfl ?_ | refine TL.minI rfl rfl rfl rfl ?_ | refine TL.nilCheckF rfl rfl rfl ?_ | refine TL.nil ?_ | refine T.seqK fun K hK => ?_ | (refine T.regionO fun ops => ?_) | refine T.condT rfl ?_ | refine T.condF rfl ?_ | refine T.block ?_ | refine T.skip ?_ | refine T.ret ?_ | refine T.exit ?_ | (refine hK _ _ ?_; clear hK K) | clear hK K | clear ops)
        exact ⟨_, rfl, hw3.trans hw34, _, by rw [← hg], by rw [← hg]; exact By.nil0 _⟩
  · have hk : k = 2 := by have := of_decide_eq_false hc; omega
    subst hk
    repeat (first | refine TL.move rfl rfl rfl ?_ | refine TL.assign rfl rfl rfl ?_ | refine TL.nilCheck rfl rfl rfl ?_ | refine TL.fieldAddr rfl rfl rfl ?_ | refine TL.convI rfl rfl rfl ?_ | refine TL.cmpI rfl rfl rfl rfl rfl ?_ | refine TL.arith rfl rfl rfl rfl rfl ?_ | refine TL.lenS rfl rfl rfl ?_ | refine TL.lenStr rfl rfl rfl ?_ | refine TL.not rfl rfl rfl ?_ | refine TL.skipG rfl rfl ?_ | refine TL.pickT rfl rfl rfl rfl ?_ | refine TL.pickF rfl rfl rfl rfl ?_ | refine TL.extract rfl rfl rfl rfl ?_ | refine TL.maxI rfl rfl rfl rfl ?_ | refine TL.minI rfl rfl rfl rfl ?_ | refine TL.nilCheckF rfl rfl rfl ?_ | refine TL.nil ?_ | refine T.seqK fun K hK => ?_ | (refine T.regionO fun ops => ?_) | refine T.condT rfl ?_ | refine T.condF rfl ?_ | refine T.block ?_ | refine T.skip ?_ | refine T.ret ?_ | refine T.exit ?_ | (refine hK _ _ ?_; clear hK K) | clear hK K | clear ops)
    have hg' : encG g = (b, 0) := by rw [← hg]; rfl
    exact ⟨_, rfl, hw3, _, by rw [hg'], by rw [hg']; exact hb⟩

theorem Tr.mem_down (g : Nd → Bool) (t : Tr) : ((downT g t).key, (downT g t).val) ∈ t.leaves := by
  induction t with
  | leaf k v => simp [downT, Tr.leaves]
  | node l r ihl ihr =>
    simp only [downT, Tr.leaves, List.mem_append]
    split
    · exact Or.inr ihr
    · exact Or.inl ihl
theorem Tr.down_turns (g : Nd → Bool) (t : Tr) : ∀ x ∈ (downT g t).turns, x.h < t.sz ∧ x.s ≤ t.sz ∧ x.other.length = 32 := by
  induction t with
  | leaf k v => intro x hx; simp [downT] at hx
  | node l r ihl ihr =>
    intro x hx
    have hl := Tr.sz_pos l
    have hr := Tr.sz_pos r
    simp only [downT, List.mem_cons] at hx
    rcases hx with rfl | hx
    · refine ⟨Tr.ht_lt (.node l r), Nat.le_refl _, ?_⟩
      show (if g (Tr.node l r).nd then (Tr.node l r).nd.L else (Tr.node l r).nd.R).length = 32
      by_cases h : g (Tr.node l r).nd = true
      · rw [if_pos h]; exact Tr.lh_len (.node l r)
      · rw [if_neg h]; exact Tr.rh_len (.node l r)
    · simp only [Tr.sz]
      split at hx
      · have := ihr x hx; exact ⟨by omega, by omega, this.2.2⟩
      · have := ihl x hx; exact ⟨by omega, by omega, this.2.2⟩
/-- keys and values of the size that a tree takes -/
def small (ps : List (List UInt8 × List UInt8)) : Prop := ∀ p ∈ ps, p.1.length ≤ 96 ∧ p.2.length ≤ 256
theorem makeO_ok (o : Option Tr) (key : List UInt8) (hs : szO o ≤ 2 ^ 30) (hsm : small (lvO o)) : (makeO key o).1.ok := by
  have h0 : pr0.ok := ⟨by simp [pr0], by simp [pr0], by simp [pr0], by simp [pr0]⟩
  unfold makeO
  split
  · cases o with
    | none => exact h0
    | some t =>
      have h1 : (downT (wayF key) t).key.length ≤ 96 := (hsm _ (Tr.mem_down (wayF key) t)).1
      have h2 : (downT (wayF key) t).val.length ≤ 256 := (hsm _ (Tr.mem_down (wayF key) t)).2
      simp only [szO] at hs
      exact ⟨by show (downT (wayF key) t).key.length ≤ 1000; omega, by show (downT (wayF key) t).val.length ≤ 1000; omega, fun x hx => by have := Tr.down_turns _ _ x hx; omega, fun x hx => (Tr.down_turns _ _ x hx).2.2⟩
  · exact h0
theorem gapF_ok (o : Option Tr) (key : List UInt8) (hs : szO o ≤ 2 ^ 30) (hsm : small (lvO o)) : ∀ (xs : List (List UInt8 × List UInt8)) (g g' : Gp), ((∀ p, g.left = some p → p.ok) ∧ (∀ p, g.right = some p → p.ok)) → gapF o key xs g = some g' → (∀ p, g'.left = some p → p.ok) ∧ (∀ p, g'.right = some p → p.ok)
  | [], g, g', h, he => by simp only [gapF, Option.some.injEq] at he; subst he; exact h
  | x :: xs, g, g', h, he => by
    rw [gapF] at he
    split at he
    · cases he
    · split at he
      · exact gapF_ok o key hs hsm xs ⟨some (makeO x.1 o).1, g.right⟩ g' ⟨fun p hp => by cases hp; exact makeO_ok o _ hs hsm, h.2⟩ he
      · split at he
        · exact gapF_ok o key hs hsm xs ⟨g.left, some (makeO x.1 o).1⟩ g' ⟨h.1, fun p hp => by cases hp; exact makeO_ok o _ hs hsm⟩ he
        · exact gapF_ok o key hs hsm xs _ g' h he
def oneF (o : Option Tr) (key : List UInt8) : List UInt8 := if (makeO key o).2 then (encP (makeO key o).1).1 else []
def gapB (o : Option Tr) (key : List UInt8) : List UInt8 := match gapO o key with | some g => (encG g).1 | none => []

set_option maxRecDepth 20000 in
set_option maxHeartbeats 2000000 in
theorem One_ret (o : Option Tr) (p kv : Value) (key : List UInt8) (w : World) (ht : IsR w o p) (hk : B0 w kv key) (hf : fitO o) (hs : szO o ≤ 2 ^ 30) (hsm : small (lvO o)) :
    Ret Tryd.prog 8 #[p, kv] w fun u w' => Ext w w' ∧ B0 w' u (oneF o key) := by
  have hok := makeO_ok o key hs hsm
  refine Ret.of_T Tryd.func8 rfl Tryd.ntmps8 Tryd.results8 rfl ?_
  repeat (first | refine TL.move rfl rfl rfl ?_ | refine TL.assign rfl rfl rfl ?_ | refine TL.nilCheck rfl rfl rfl ?_ | refine TL.fieldAddr rfl rfl rfl ?_ | refine TL.convI rfl rfl rfl ?_ | refine TL.cmpI rfl rfl rfl rfl rfl ?_ | refine TL.arith rfl rfl rfl rfl rfl ?_ | refine TL.lenS rfl rfl rfl ?_ | refine TL.lenStr rfl rfl rfl ?_ | refine TL.not rfl rfl rfl ?_ | refine TL.skipG rfl rfl ?_ | refine TL.pickT rfl rfl rfl rfl ?_ | refine TL.pickF rfl rfl rfl rfl ?_ | refine TL.extract rfl rfl rfl rfl ?_ | refine TL.maxI rfl rfl rfl rfl ?_ | refine TL.minI rfl rfl rfl rfl ?_ | refine TL.nilCheckF rfl rfl rfl ?_ | refine TL.nil ?_ | refine T.seqK fun K hK => ?_ | (refine T.regionO fun ops => ?_) | refine T.condT rfl ?_ | refine T.condF rfl ?_ | refine T.block ?_ | refine T.skip ?_ | refine T.ret ?_ | refine T.exit ?_ | (refine hK _ _ ?_; clear hK K) | clear hK K | clear ops)
  refine TL.call rfl rfl rfl (Make_ret o p kv key w ht hk hf hs) ?_
  rintro _ w1 ⟨hw1, _, rfl, hP⟩
  obtain ⟨dk, dv, dt, rfl, h1, h2, h3⟩ := id hP
  obtain ⟨ta, tc, rfl, _⟩ := h3.shape
  repeat (first | refine TL.move rfl rfl rfl ?_ | refine TL.assign rfl rfl rfl ?_ | refine TL.nilCheck rfl rfl rfl ?_ | refine TL.fieldAddr rfl rfl rfl ?_ | refine TL.convI rfl rfl rfl ?_ | refine TL.cmpI rfl rfl rfl rfl rfl ?_ | refine TL.arith rfl rfl rfl rfl rfl ?_ | refine TL.lenS rfl rfl rfl ?_ | refine TL.lenStr rfl rfl rfl ?_ | refine TL.not rfl rfl rfl ?_ | refine TL.skipG rfl rfl ?_ | refine TL.pickT rfl rfl rfl rfl ?_ | refine TL.pickF rfl rfl rfl rfl ?_ | refine TL.extract rfl rfl rfl rfl ?_ | refine TL.maxI rfl rfl rfl rfl ?_ | refine TL.minI rfl rfl rfl rfl ?_ | refine TL.nilCheckF rfl rfl rfl ?_ | refine TL.nil ?_ | refine T.seqK fun K hK => ?_ | (refine T.regionO fun ops => ?_) | refine T.condT rfl ?_ | refine T.condF rfl ?_ | refine T.block ?_ | refine T.skip ?_ | refine T.ret ?_ | refine T.exit ?_ | (refine hK _ _ ?_; clear hK K) | clear hK K | clear ops)
  refine TL.alloc rfl rfl fun b2 w2 hal => ?_
  have hz : Row w2 b2 [nils, nils, nils] 35 (0, 0) := hal.at_
  refine TL.storeRA (A := []) (C := []) (old := [nils, nils, nils]) (xs := [dk, dv, .slice ta (makeO key o).1.turns.length tc]) rfl rfl rfl (by simpa using hz) rfl (by simp [Value.cells]) rfl rfl (by
    intro u hu
    simp at hu
    rcases hu with rfl | rfl | rfl
    · exact By.one h1
    · exact By.one h2
    · rfl) fun w3 hg3 hr3 hs3 => ?_
  have hr3 : Row w3 b2 [dk, dv, .slice ta (makeO key o).1.turns.length tc] 35 (0, 0) := hr3
  have hw13 : Ext w1 w3 := Below.trans hal.below (below_grown hg3 (by rw [hal.num]; exact Nat.le_refl _) hal.below.size)
  have hw3 : Ext w w3 := hw1.trans hw13
  clear hal hz hg3 hs3
  repeat (first | refine TL.move rfl rfl rfl ?_ | refine TL.assign rfl rfl rfl ?_ | refine TL.nilCheck rfl rfl rfl ?_ | refine TL.fieldAddr rfl rfl rfl ?_ | refine TL.convI rfl rfl rfl ?_ | refine TL.cmpI rfl rfl rfl rfl rfl ?_ | refine TL.arith rfl rfl rfl rfl rfl ?_ | refine TL.lenS rfl rfl rfl ?_ | refine TL.lenStr rfl rfl rfl ?_ | refine TL.not rfl rfl rfl ?_ | refine TL.skipG rfl rfl ?_ | refine TL.pickT rfl rfl rfl rfl ?_ | refine TL.pickF rfl rfl rfl rfl ?_ | refine TL.extract rfl rfl rfl rfl ?_ | refine TL.maxI rfl rfl rfl rfl ?_ | refine TL.minI rfl rfl rfl rfl ?_ | refine TL.nilCheckF rfl rfl rfl ?_ | refine TL.nil ?_ | refine T.seqK fun K hK => ?_ | (refine T.regionO fun ops => ?_) | refine T.condT rfl ?_ | refine T.condF rfl ?_ | refine T.block ?_ | refine T.skip ?_ | refine T.ret ?_ | refine T.exit ?_ | (refine hK _ _ ?_; clear hK K) | clear hK K | clear ops)
  refine T.cond rfl (fun hc => ?_) (fun hc => ?_)
  · have hc' : (makeO key o).2 = false := by simpa using hc
    repeat (first | refine TL.move rfl rfl rfl ?_ | refine TL.assign rfl rfl rfl ?_ | refine TL.nilCheck rfl rfl rfl ?_ | refine TL.fieldAddr rfl rfl rfl ?_ | refine TL.convI rfl rfl rfl ?_ | refine TL.cmpI rfl rfl rfl rfl rfl ?_ | refine TL.arith rfl rfl rfl rfl rfl ?_ | refine TL.lenS rfl rfl rfl ?_ | refine TL.lenStr rfl rfl rfl ?_ | refine TL.not rfl rfl rfl ?_ | refine TL.skipG rfl rfl ?_ | refine TL.pickT rfl rfl rfl rfl ?_ | refine TL.pickF rfl rfl rfl rfl ?_ | refine TL.extract rfl rfl rfl rfl ?_ | refine TL.maxI rfl rfl rfl rfl ?_ | refine TL.minI rfl rfl rfl rfl ?_ | refine TL.nilCheckF rfl rfl rfl ?_ | refine TL.nil ?_ | refine T.seqK fun K hK => ?_ | (refine T.regionO fun ops => ?_) | refine T.condT rfl ?_ | refine T.condF rfl ?_ | refine T.block ?_ | refine T.skip ?_ | refine T.ret ?_ | refine T.exit ?_ | (refine hK _ _ ?_; clear hK K) | clear hK K | clear ops)
    exact ⟨_, rfl, hw3, by rw [oneF, hc']; exact By.nil0 _⟩
  · have hc' : (makeO key o).2 = true := by simpa using hc
    repeat (first | refine TL.move rfl rfl rfl ?_ | refine TL.assign rfl rfl rfl ?_ | refine TL.nilCheck rfl rfl rfl ?_ | refine TL.fieldAddr rfl rfl rfl ?_ | refine TL.convI rfl rfl rfl ?_ | refine TL.cmpI rfl rfl rfl rfl rfl ?_ | refine TL.arith rfl rfl rfl rfl rfl ?_ | refine TL.lenS rfl rfl rfl ?_ | refine TL.lenStr rfl rfl rfl ?_ | refine TL.not rfl rfl rfl ?_ | refine TL.skipG rfl rfl ?_ | refine TL.pickT rfl rfl rfl rfl ?_ | refine TL.pickF rfl rfl rfl rfl ?_ | refine TL.extract rfl rfl rfl rfl ?_ | refine TL.maxI rfl rfl rfl rfl ?_ | refine TL.minI rfl rfl rfl rfl ?_ | refine TL.nilCheckF rfl rfl rfl ?_ | refine TL.nil ?_ | refine T.seqK fun K hK => ?_ | (refine T.regionO fun ops => ?_) | refine T.condT rfl ?_ | refine T.condF rfl ?_ | refine T.block ?_ | refine T.skip ?_ | refine T.ret ?_ | refine T.exit ?_ | (refine hK _ _ ?_; clear hK K) | clear hK K | clear ops)
    refine TL.ev rfl rfl (Ev.loadRA (xs := [dk, dv, .slice ta (makeO key o).1.turns.length tc]) rfl hr3 rfl rfl) ?_
    refine TL.call rfl rfl rfl (Encode_ret _ _ w3 ((hP.sub fun _ _ => trivial).ext hw13) (by have := hok.key; omega) (by have := hok.val; omega) hok.turns) ?_
    rintro _ w4 ⟨hw4, q, rfl, hq⟩
    repeat (first | refine TL.move rfl rfl rfl ?_ | refine TL.assign rfl rfl rfl ?_ | refine TL.nilCheck rfl rfl rfl ?_ | refine TL.fieldAddr rfl rfl rfl ?_ | refine TL.convI rfl rfl rfl ?_ | refine TL.cmpI rfl rfl rfl rfl rfl ?_ | refine TL.arith rfl rfl rfl rfl rfl ?_ | refine TL.lenS rfl rfl rfl ?_ | refine TL.lenStr rfl rfl rfl ?_ | refine TL.not rfl rfl rfl ?_ | refine TL.skipG rfl rfl ?_ | refine TL.pickT rfl rfl rfl rfl ?_ | refine TL.pickF rfl rfl rfl rfl ?_ | refine TL.extract rfl rfl rfl rfl ?_ | refine TL.maxI rfl rfl rfl rfl ?_ | refine TL.minI rfl rfl rfl rfl ?_ | refine TL.nilCheckF rfl rfl rfl ?_ | refine TL.nil ?_ | refine T.seqK fun K hK => ?_ | (refine T.regionO fun ops => ?_) | refine T.condT rfl ?_ | refine T.condF rfl ?_ | refine T.block ?_ | refine T.skip ?_ | refine T.ret ?_ | refine T.exit ?_ | (refine hK _ _ ?_; clear hK K) | clear hK K | clear ops)
    exact ⟨_, rfl, hw3.trans hw4, by rw [oneF, hc']; exact hq⟩

set_option maxRecDepth 20000 in
set_option maxHeartbeats 2000000 in
theorem Gap_ret (o : Option Tr) (p kv : Value) (key : List UInt8) (w : World) (ht : IsR w o p) (hk : B0 w kv key) (hf : fitO o) (hs : szO o ≤ 2 ^ 30) (hsm : small (lvO o)) :
    Ret Tryd.prog 9 #[p, kv] w fun u w' => Ext w w' ∧ B0 w' u (gapB o key) := by
  refine Ret.of_T Tryd.func9 rfl Tryd.ntmps9 Tryd.results9 rfl ?_
  repeat (first | refine TL.move rfl rfl rfl ?_ | refine TL.assign rfl rfl rfl ?_ | refine TL.nilCheck rfl rfl rfl ?_ | refine TL.fieldAddr rfl rfl rfl ?_ | refine TL.convI rfl rfl rfl ?_ | refine TL.cmpI rfl rfl rfl rfl rfl ?_ | refine TL.arith rfl rfl rfl rfl rfl ?_ | refine TL.lenS rfl rfl rfl ?_ | refine TL.lenStr rfl rfl rfl ?_ | refine TL.not rfl rfl rfl ?_ | refine TL.skipG rfl rfl ?_ | refine TL.pickT rfl rfl rfl rfl ?_ | refine TL.pickF rfl rfl rfl rfl ?_ | refine TL.extract rfl rfl rfl rfl ?_ | refine TL.maxI rfl rfl rfl rfl ?_ | refine TL.minI rfl rfl rfl rfl ?_ | refine TL.nilCheckF rfl rfl rfl ?_ | refine TL.nil ?_ | refine T.seqK fun K hK => ?_ | (refine T.regionO fun ops => ?_) | refine T.condT rfl ?_ | refine T.condF rfl ?_ | refine T.block ?_ | refine T.skip ?_ | refine T.ret ?_ | refine T.exit ?_ | (refine hK _ _ ?_; clear hK K) | clear hK K | clear ops)
  refine TL.call rfl rfl rfl (None_ret o p kv key w ht hk hf hs) ?_
  rintro _ w1 ⟨hw1, _, rfl, hG⟩
  obtain ⟨lp, rp, rfl, h1, h2⟩ := id hG
  obtain ⟨lq, rfl, _⟩ := h1.ptr
  obtain ⟨rq, rfl, _⟩ := h2.ptr
  repeat (first | refine TL.move rfl rfl rfl ?_ | refine TL.assign rfl rfl rfl ?_ | refine TL.nilCheck rfl rfl rfl ?_ | refine TL.fieldAddr rfl rfl rfl ?_ | refine TL.convI rfl rfl rfl ?_ | refine TL.cmpI rfl rfl rfl rfl rfl ?_ | refine TL.arith rfl rfl rfl rfl rfl ?_ | refine TL.lenS rfl rfl rfl ?_ | refine TL.lenStr rfl rfl rfl ?_ | refine TL.not rfl rfl rfl ?_ | refine TL.skipG rfl rfl ?_ | refine TL.pickT rfl rfl rfl rfl ?_ | refine TL.pickF rfl rfl rfl rfl ?_ | refine TL.extract rfl rfl rfl rfl ?_ | refine TL.maxI rfl rfl rfl rfl ?_ | refine TL.minI rfl rfl rfl rfl ?_ | refine TL.nilCheckF rfl rfl rfl ?_ | refine TL.nil ?_ | refine T.seqK fun K hK => ?_ | (refine T.regionO fun ops => ?_) | refine T.condT rfl ?_ | refine T.condF rfl ?_ | refine T.block ?_ | refine T.skip ?_ | refine T.ret ?_ | refine T.exit ?_ | (refine hK _ _ ?_; clear hK K) | clear hK K | clear ops)
  refine TL.alloc rfl rfl fun b2 w2 hal => ?_
  have hz : Row w2 b2 [nilp, nilp] 40 (0, 0) := hal.at_
  refine TL.storeRA (A := []) (C := []) (old := [nilp, nilp]) (xs := [.pointer lq, .pointer rq]) rfl rfl rfl (by simpa using hz) rfl (by simp [Value.cells]) rfl rfl (by simp [Value.oneCell']) fun w3 hg3 hr3 hs3 => ?_
  have hr3 : Row w3 b2 [.pointer lq, .pointer rq] 40 (0, 0) := hr3
  have hw13 : Ext w1 w3 := Below.trans hal.below (below_grown hg3 (by rw [hal.num]; exact Nat.le_refl _) hal.below.size)
  have hw3 : Ext w w3 := hw1.trans hw13
  clear hal hz hg3 hs3
  repeat (first | refine TL.move rfl rfl rfl ?_ | refine TL.assign rfl rfl rfl ?_ | refine TL.nilCheck rfl rfl rfl ?_ | refine TL.fieldAddr rfl rfl rfl ?_ | refine TL.convI rfl rfl rfl ?_ | refine TL.cmpI rfl rfl rfl rfl rfl ?_ | refine TL.arith rfl rfl rfl rfl rfl ?_ | refine TL.lenS rfl rfl rfl ?_ | refine TL.lenStr rfl rfl rfl ?_ | refine TL.not rfl rfl rfl ?_ | refine TL.skipG rfl rfl ?_ | refine TL.pickT rfl rfl rfl rfl ?_ | refine TL.pickF rfl rfl rfl rfl ?_ | refine TL.extract rfl rfl rfl rfl ?_ | refine TL.maxI rfl rfl rfl rfl ?_ | refine TL.minI rfl rfl rfl rfl ?_ | refine TL.nilCheckF rfl rfl rfl ?_ | refine TL.nil ?_ | refine T.seqK fun K hK => ?_ | (refine T.regionO fun ops => ?_) | refine T.condT rfl ?_ | refine T.condF rfl ?_ | refine T.block ?_ | refine T.skip ?_ | refine T.ret ?_ | refine T.exit ?_ | (refine hK _ _ ?_; clear hK K) | clear hK K | clear ops)
  refine T.cond rfl (fun hc => ?_) (fun hc => ?_)
  · have hc' : (gapO o key).isSome = false := by simpa using hc
    have e : gapB o key = [] := by
      unfold gapB; cases hg : gapO o key with
      | none => rfl
      | some g => rw [hg] at hc'; cases hc'
    repeat (first | refine TL.move rfl rfl rfl ?_ | refine TL.assign rfl rfl rfl ?_ | refine TL.nilCheck rfl rfl rfl ?_ | refine TL.fieldAddr rfl rfl rfl ?_ | refine TL.convI rfl rfl rfl ?_ | refine TL.cmpI rfl rfl rfl rfl rfl ?_ | refine TL.arith rfl rfl rfl rfl rfl ?_ | refine TL.lenS rfl rfl rfl ?_ | refine TL.lenStr rfl rfl rfl ?_ | refine TL.not rfl rfl rfl ?_ | refine TL.skipG rfl rfl ?_ | refine TL.pickT rfl rfl rfl rfl ?_ | refine TL.pickF rfl rfl rfl rfl ?_ | refine TL.extract rfl rfl rfl rfl ?_ | refine TL.maxI rfl rfl rfl rfl ?_ | refine TL.minI rfl rfl rfl rfl ?_ | refine TL.nilCheckF rfl rfl rfl ?_ | refine TL.nil ?_ | refine T.seqK fun K hK => ?_ | (refine T.regionO fun ops => ?_) | refine T.condT rfl ?_ | refine T.condF rfl ?_ | refine T.block ?_ | refine T.skip ?_ | refine T.ret ?_ | refine T.exit ?_ | (refine hK _ _ ?_; clear hK K) | clear hK K | clear ops)
    exact ⟨_, rfl, hw3, by rw [e]; exact By.nil0 _⟩
  · have hc' : (gapO o key).isSome = true := by simpa using hc
    obtain ⟨g, hg⟩ := Option.isSome_iff_exists.1 hc'
    have e : gapB o key = (encG g).1 := by rw [gapB, hg]
    rw [hg] at h1 h2
    have h1 : PtrP (w.heap.size ≤ ·) w1 g.left (.pointer lq) := h1
    have h2 : PtrP (w.heap.size ≤ ·) w1 g.right (.pointer rq) := h2
    have hok := gapF_ok o key hs hsm _ gp0 g ⟨fun p hp => (by cases hp), fun p hp => (by cases hp)⟩ hg
    repeat (first | refine TL.move rfl rfl rfl ?_ | refine TL.assign rfl rfl rfl ?_ | refine TL.nilCheck rfl rfl rfl ?_ | refine TL.fieldAddr rfl rfl rfl ?_ | refine TL.convI rfl rfl rfl ?_ | refine TL.cmpI rfl rfl rfl rfl rfl ?_ | refine TL.arith rfl rfl rfl rfl rfl ?_ | refine TL.lenS rfl rfl rfl ?_ | refine TL.lenStr rfl rfl rfl ?_ | refine TL.not rfl rfl rfl ?_ | refine TL.skipG rfl rfl ?_ | refine TL.pickT rfl rfl rfl rfl ?_ | refine TL.pickF rfl rfl rfl rfl ?_ | refine TL.extract rfl rfl rfl rfl ?_ | refine TL.maxI rfl rfl rfl rfl ?_ | refine TL.minI rfl rfl rfl rfl ?_ | refine TL.nilCheckF rfl rfl rfl ?_ | refine TL.nil ?_ | refine T.seqK fun K hK => ?_ | (refine T.regionO fun ops => ?_) | refine T.condT rfl ?_ | refine T.condF rfl ?_ | refine T.block ?_ | refine T.skip ?_ | refine T.ret ?_ | refine T.exit ?_ | (refine hK _ _ ?_; clear hK K) | clear hK K | clear ops)
    refine TL.ev rfl rfl (Ev.loadRA (xs := [.pointer lq, .pointer rq]) rfl hr3 rfl rfl) ?_
    refine TL.call rfl rfl rfl (EncodeGap_ret g _ w3 ⟨_, _, rfl, (h1.sub fun _ _ => trivial).keep (Same.ofBelow hw13 _), (h2.sub fun _ _ => trivial).keep (Same.ofBelow hw13 _)⟩ hok.1 hok.2) ?_
    rintro _ w4 ⟨hw4, q, rfl, hq⟩
    repeat (first | refine TL.move rfl rfl rfl ?_ | refine TL.assign rfl rfl rfl ?_ | refine TL.nilCheck rfl rfl rfl ?_ | refine TL.fieldAddr rfl rfl rfl ?_ | refine TL.convI rfl rfl rfl ?_ | refine TL.cmpI rfl rfl rfl rfl rfl ?_ | refine TL.arith rfl rfl rfl rfl rfl ?_ | refine TL.lenS rfl rfl rfl ?_ | refine TL.lenStr rfl rfl rfl ?_ | refine TL.not rfl rfl rfl ?_ | refine TL.skipG rfl rfl ?_ | refine TL.pickT rfl rfl rfl rfl ?_ | refine TL.pickF rfl rfl rfl rfl ?_ | refine TL.extract rfl rfl rfl rfl ?_ | refine TL.maxI rfl rfl rfl rfl ?_ | refine TL.minI rfl rfl rfl rfl ?_ | refine TL.nilCheckF rfl rfl rfl ?_ | refine TL.nil ?_ | refine T.seqK fun K hK => ?_ | (refine T.regionO fun ops => ?_) | refine T.condT rfl ?_ | refine T.condF rfl ?_ | refine T.block ?_ | refine T.skip ?_ | refine T.ret ?_ | refine T.exit ?_ | (refine hK _ _ ?_; clear hK K) | clear hK K | clear ops)
    exact ⟨_, rfl, hw3.trans hw4, by rw [e]; exact hq⟩
end Go.Proofs
