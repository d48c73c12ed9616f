/- What proof.down comes to. Conditions: as the theorem says. -/
import Derived.Test.YtflioeagjefkmaaDoorWlk
import Derived.Test.YtflioeagjefkmaaDoorFwJ
set_option linter.all false
namespace Go.Fw
open Go.RowKit
theorem LstG.keepG {α : Type} {E : Elm α} {H : Nat → Prop} {B : Nat} {w0 w w' : World} {e : TypeId} {v : Value} {xs : List α} {r : Option Nat} (flat : ∀ F G w w' ys a, E.rel F w ys a → E.rel G w' ys a) (h : LstG E H B w0 w e v xs) (hg : w.grownBy w' r) (hne : v.ownBlock = none ∨ v.ownBlock ≠ r) (hr : ∀ k, r = some k → B ≤ k) : LstG E H B w0 w' e v xs :=
  let ⟨xss, ha, hb⟩ := h.ex
  ⟨xss, ha.keepG hg hne hr, hb.1, fun i x a hx ha' => flat _ _ _ _ _ _ (hb.2 i x a hx ha')⟩
theorem LstG.lsrB {α : Type} {E : Elm α} {H : Nat → Prop} {B : Nat} {w0 w : World} {e : TypeId} {v : Value} {xs : List α} (flat : ∀ F G w w' ys a, E.rel F w ys a → E.rel G w' ys a) (h : LstG E H B w0 w e v xs) : Lsr E (B ≤ ·) w v xs :=
  let ⟨xss, ha, hb⟩ := h.ex
  ⟨xss, ha.rd, hb.1, fun i x a hx ha' => flat _ _ _ _ _ _ (hb.2 i x a hx ha')⟩
theorem Lsr.nilF {α : Type} (E : Elm α) (F : Nat → Prop) (w : World) : Lsr E F w (.slice none 0 0) [] := ⟨[], ⟨none, 0, rfl, by simp, Nat.le_refl _, Nat.zero_le _, fun _ => rfl, fun h => absurd rfl h⟩, Els.nil⟩
end Go.Fw
namespace Go.Proofs
open Go.Fw Go.RowKit
attribute [local irreducible] TL T TS Ev Ret

structure Tn where
  h : Nat
  s : Nat
  right : Bool
  other : List UInt8
def tnc (t : Tn) : List Value := [.int .i64 t.h, .int .u64 t.s, .bool t.right] ++ t.other.map vb
/-- a turn as a part -/
def turnE : Elm Tn where
  sz := 35
  rel _ _ xs t := xs = tnc t ∧ t.other.length = 32
  keep := fun h _ => h
  lt := fun h => h
  sub := fun h _ => h
  len := fun ⟨h1, h2⟩ => by rw [h1]; simp [tnc, h2]
  one := fun ⟨h1, h2⟩ u hu => by
    subst h1
    simp only [tnc, List.mem_append, List.mem_cons, List.not_mem_nil, or_false] at hu
    rcases hu with (rfl | rfl | rfl) | hu
    · rfl
    · rfl
    · rfl
    · exact vb_all _ u hu
theorem turnE_flat : ∀ F G w w' ys a, turnE.rel F w ys a → turnE.rel G w' ys a := fun _ _ _ _ _ _ h => h
/-- what a proof shows -/
structure Pr where
  key : List UInt8
  val : List UInt8
  turns : List Tn
def pr0 : Pr := ⟨[], [], []⟩
/-- an api.Proof as a value -/
def IsPF (F : Nat → Prop) (w : World) (p : Pr) (u : Value) : Prop := ∃ kv vv tv, u = .agg [kv, vv, tv].toArray ∧ By F w kv p.key ∧ By F w vv p.val ∧ Lsr turnE F w tv p.turns
abbrev IsP : World → Pr → Value → Prop := IsPF Any
theorem IsPF.keep {F : Nat → Prop} {w w' : World} {p : Pr} {u : Value} (h : IsPF F w p u) (hs : Same F w w') : IsPF F w' p u := let ⟨a, b, c, h1, h2, h3, h4⟩ := h; ⟨a, b, c, h1, h2.keep hs, h3.keep hs, h4.keep hs⟩
theorem IsPF.ext {F : Nat → Prop} {w w' : World} {p : Pr} {u : Value} (he : Ext w w') (h : IsPF F w p u) : IsPF F w' p u := h.keep (Same.ofBelow he _)
theorem IsPF.sub {F G : Nat → Prop} {w : World} {p : Pr} {u : Value} (h : IsPF F w p u) (hs : ∀ k, F k → G k) : IsPF G w p u := let ⟨a, b, c, h1, h2, h3, h4⟩ := h; ⟨a, b, c, h1, h2.sub hs, h3.sub hs, h4.sub hs⟩
theorem IsPF.nil (F : Nat → Prop) (w : World) : IsPF F w pr0 (.agg [nils, nils, nils].toArray) := ⟨nils, nils, nils, rfl, By.nilF _ _, By.nilF _ _, Lsr.nilF _ _ _⟩
/-- the way down to a leaf -/
def downT (g : Nd → Bool) : Tr → Pr
  | .leaf k v => ⟨k, v, []⟩
  | .node l r =>
    let n := (Tr.node l r).nd
    let d := if g n then downT g r else downT g l
    ⟨d.key, d.val, ⟨n.h, n.s, g n, if g n then n.L else n.R⟩ :: d.turns⟩
def downO (g : Nd → Bool) : Option Tr → Pr
  | none => pr0
  | some t => downT g t
/-- what a function value answers -/
def Answers (f : Value) (w : World) (g : Nd → Bool) : Prop := ∃ (i : FuncId) (fs cs : Array Value), f = .func (.func i) fs cs ∧ Cal Tryd.prog i ∧ ∀ w' d u, Ext w w' → d.ok → IsN w' d u → Ret Tryd.prog i (fs ++ #[u] ++ cs) w' fun r w'' => r = .bool (g d) ∧ Ext w' w''

theorem Tr.at_snoc (ws : List Bool) (b : Bool) : ∀ (t l r : Tr), t.at_ ws = some (.node l r) → t.at_ (ws ++ [b]) = some (if b then r else l) := by
  induction ws with
  | nil => intro t l r h; simp [Tr.at_] at h; subst h; cases b <;> simp [Tr.at_]
  | cons x ws ih =>
    intro t l r h
    cases t with
    | leaf k v => simp [Tr.at_] at h
    | node a c =>
      simp only [Tr.at_, List.cons_append] at h ⊢
      cases x <;> simp at h ⊢ <;> exact ih _ l r h

set_option maxRecDepth 20000 in
set_option maxHeartbeats 2000000 in
theorem down_ret (o : Option Tr) (p f : Value) (g : Nd → Bool) (w : World) (ht : IsR w o p) (hg : Answers f w g) (hf : fitO o) (hs : szO o ≤ 2 ^ 30) :
    Ret Tryd.prog 40 #[p, f] w fun u w' => Ext w w' ∧ ∃ q, u = .tuple #[q, .bool o.isSome] ∧ IsPF (w.heap.size ≤ ·) w' (downO g o) q := by
  obtain ⟨fi, fs, cs, rfl, hcal, hans⟩ := hg
  refine Ret.of_T2 Tryd.func40 rfl Tryd.ntmps40 Tryd.results40 rfl ?_
  repeat (first | refine TL.move rfl rfl rfl ?_ | refine TL.assign rfl rfl rfl ?_ | refine TL.nilCheck rfl rfl rfl ?_ | refine TL.fieldAddr rfl rfl rfl ?_ | refine TL.convI rfl rfl rfl ?_ | refine TL.cmpI rfl rfl rfl rfl rfl ?_ | refine TL.arith rfl rfl rfl rfl rfl ?_ | refine TL.lenS rfl rfl rfl ?_ | refine TL.lenStr rfl rfl rfl ?_ | refine TL.not rfl rfl rfl ?_ | refine TL.skipG rfl rfl ?_ | refine TL.pickT rfl rfl rfl rfl ?_ | refine TL.pickF rfl rfl rfl rfl ?_ | refine TL.extract rfl rfl rfl rfl ?_ | refine TL.maxI rfl rfl rfl rfl ?_ | refine TL.minI rfl rfl rfl rfl ?_ | refine TL.nilCheckF rfl rfl rfl ?_ | refine TL.nil ?_ | refine T.seqK fun K hK => ?_ | (refine T.regionO fun ops => ?_) | refine T.condT rfl ?_ | refine T.condF rfl ?_ | refine T.block ?_ | refine T.skip ?_ | refine T.ret ?_ | refine T.exit ?_ | (refine hK _ _ ?_; clear hK K) | clear hK K | clear ops)
  refine TL.alloc rfl rfl fun b4 w1 hal1 => ?_
  have h41 : Row w1 b4 [nils, nils, nils] 35 (0, 0) := hal1.at_
  have hb4 : w.heap.size ≤ b4 := by rw [hal1.num]; exact Nat.le_refl _
  repeat (first | refine TL.move rfl rfl rfl ?_ | refine TL.assign rfl rfl rfl ?_ | refine TL.nilCheck rfl rfl rfl ?_ | refine TL.fieldAddr rfl rfl rfl ?_ | refine TL.convI rfl rfl rfl ?_ | refine TL.cmpI rfl rfl rfl rfl rfl ?_ | refine TL.arith rfl rfl rfl rfl rfl ?_ | refine TL.lenS rfl rfl rfl ?_ | refine TL.lenStr rfl rfl rfl ?_ | refine TL.not rfl rfl rfl ?_ | refine TL.skipG rfl rfl ?_ | refine TL.pickT rfl rfl rfl rfl ?_ | refine TL.pickF rfl rfl rfl rfl ?_ | refine TL.extract rfl rfl rfl rfl ?_ | refine TL.maxI rfl rfl rfl rfl ?_ | refine TL.minI rfl rfl rfl rfl ?_ | refine TL.nilCheckF rfl rfl rfl ?_ | refine TL.nil ?_ | refine T.seqK fun K hK => ?_ | (refine T.regionO fun ops => ?_) | refine T.condT rfl ?_ | refine T.condF rfl ?_ | refine T.block ?_ | refine T.skip ?_ | refine T.ret ?_ | refine T.exit ?_ | (refine hK _ _ ?_; clear hK K) | clear hK K | clear ops)
  refine TL.alloc rfl rfl fun b6 w2 hal2 => ?_
  have h62 : Row w2 b6 [nils, nils, nils] 35 (0, 0) := hal2.at_
  have h42 := h41.keepA hal2.below
  have hw2 : Ext w w2 := Ext.trans hal1.below hal2.below
  have hb6 : w.heap.size ≤ b6 := by rw [hal2.num]; exact hal1.below.size
  have h46 : b4 ≠ b6 := by have := h41.lt; rw [hal2.num]; omega
  clear hal1 hal2 h41
  repeat (first | refine TL.move rfl rfl rfl ?_ | refine TL.assign rfl rfl rfl ?_ | refine TL.nilCheck rfl rfl rfl ?_ | refine TL.fieldAddr rfl rfl rfl ?_ | refine TL.convI rfl rfl rfl ?_ | refine TL.cmpI rfl rfl rfl rfl rfl ?_ | refine TL.arith rfl rfl rfl rfl rfl ?_ | refine TL.lenS rfl rfl rfl ?_ | refine TL.lenStr rfl rfl rfl ?_ | refine TL.not rfl rfl rfl ?_ | refine TL.skipG rfl rfl ?_ | refine TL.pickT rfl rfl rfl rfl ?_ | refine TL.pickF rfl rfl rfl rfl ?_ | refine TL.extract rfl rfl rfl rfl ?_ | refine TL.maxI rfl rfl rfl rfl ?_ | refine TL.minI rfl rfl rfl rfl ?_ | refine TL.nilCheckF rfl rfl rfl ?_ | refine TL.nil ?_ | refine T.seqK fun K hK => ?_ | (refine T.regionO fun ops => ?_) | refine T.condT rfl ?_ | refine T.condF rfl ?_ | refine T.block ?_ | refine T.skip ?_ | refine T.ret ?_ | refine T.exit ?_ | (refine hK _ _ ?_; clear hK K) | clear hK K | clear ops)
  refine T.loop (fun m L w' => ∃ (ws : List Bool) (ts : List Tn) (wv tv : Value) (s : Option Tr), Less [(0, p), (1, .func (.func fi) fs cs), (4, .pointer (some ⟨b4, 0, none⟩)), (5, .bool false), (6, .pointer (some ⟨b6, 0, none⟩)), (7, wv)] L ∧ Row w' b4 [nils, nils, nils] 35 (0, 0) ∧ Row w' b6 [nils, nils, tv] 35 (0, 0) ∧
      Lst turnE w.heap.size w w' 116 tv ts ∧ Fw.Acc w.heap.size w w' 4 1 wv ws.length (ws.map Value.bool) ∧ (∀ k, tv.ownBlock = some k → k ≠ b4 ∧ k ≠ b6 ∧ wv.ownBlock ≠ some k) ∧ (∀ k, wv.ownBlock = some k → k ≠ b4 ∧ k ≠ b6) ∧
      atO ws o = s ∧ (∀ t', s = some t' → (downO g o).key = (downT g t').key ∧ (downO g o).val = (downT g t').val ∧ (downO g o).turns = ts ++ (downT g t').turns) ∧ (s = none → o = none) ∧ szO s + ts.length + m ≤ szO o + m ∧ szO s ≤ m ∧ ts.length = ws.length) (szO o)
    ⟨[], [], nils, nils, o, (by repeat (first | exact Less.nil _ | refine Less.cons rfl ?_)), h42, h62, Lst.nil _ _ _ hw2 (Nat.le_refl _) _, Acc.nil' _ _ _ hw2 (Nat.le_refl _) _ _, by simp [Value.ownBlock], by simp [Value.ownBlock], by cases o <;> rfl, by rintro t' rfl; simp [downO], fun h => h, by simp, Nat.le_refl _, rfl⟩ ?_
  clear h42 h62 hw2
  rintro m L w3 ⟨ws, ts, wv, tv, s, hL, h4, h6, hT, hW, hD1, hD2, hat, hdn, hno, hm1, hm2, hlen⟩
  refine T.sub hL ?_
  have hw3 : Ext w w3 := hT.below
  have hsO : szO o < 2 ^ 60 := by omega
  repeat (first | refine TL.move rfl rfl rfl ?_ | refine TL.assign rfl rfl rfl ?_ | refine TL.nilCheck rfl rfl rfl ?_ | refine TL.fieldAddr rfl rfl rfl ?_ | refine TL.convI rfl rfl rfl ?_ | refine TL.cmpI rfl rfl rfl rfl rfl ?_ | refine TL.arith rfl rfl rfl rfl rfl ?_ | refine TL.lenS rfl rfl rfl ?_ | refine TL.lenStr rfl rfl rfl ?_ | refine TL.not rfl rfl rfl ?_ | refine TL.skipG rfl rfl ?_ | refine TL.pickT rfl rfl rfl rfl ?_ | refine TL.pickF rfl rfl rfl rfl ?_ | refine TL.extract rfl rfl rfl rfl ?_ | refine TL.maxI rfl rfl rfl rfl ?_ | refine TL.minI rfl rfl rfl rfl ?_ | refine TL.nilCheckF rfl rfl rfl ?_ | refine TL.nil ?_ | refine T.seqK fun K hK => ?_ | (refine T.regionO fun ops => ?_) | refine T.condT rfl ?_ | refine T.condF rfl ?_ | refine T.block ?_ | refine T.skip ?_ | refine T.ret ?_ | refine T.exit ?_ | (refine hK _ _ ?_; clear hK K) | clear hK K | clear ops)
  refine TL.call rfl rfl rfl (Node_ret o p wv ws w3 (IsR.ext hw3 ht) hW.rd hf hsO) ?_
  rintro _ w4 ⟨hw34, q, rfl, kv, vv, rfl, hk4, hv4⟩
  rw [hat] at hk4 hv4 ⊢
  have hok : (ndO s).ok := by
    cases s with
    | none => exact nd0_ok
    | some t' =>
      cases o with
      | none => simp [atO] at hat
      | some t0 =>
        have := Tr.at_fit (show t0.at_ ws = some t' from hat) (hf t0 rfl)
        exact Tr.nd_ok this.1 (by simp only [szO] at hsO; omega)
  have hln : (ncs kv vv (ndO s).h (ndO s).s (ndO s).L (ndO s).R).length = 68 := ncs_len _ _ _ _ _ _ hok.L hok.R
  have hw4 : Ext w w4 := hw3.trans hw34
  repeat (first | refine TL.move rfl rfl rfl ?_ | refine TL.assign rfl rfl rfl ?_ | refine TL.nilCheck rfl rfl rfl ?_ | refine TL.fieldAddr rfl rfl rfl ?_ | refine TL.convI rfl rfl rfl ?_ | refine TL.cmpI rfl rfl rfl rfl rfl ?_ | refine TL.arith rfl rfl rfl rfl rfl ?_ | refine TL.lenS rfl rfl rfl ?_ | refine TL.lenStr rfl rfl rfl ?_ | refine TL.not rfl rfl rfl ?_ | refine TL.skipG rfl rfl ?_ | refine TL.pickT rfl rfl rfl rfl ?_ | refine TL.pickF rfl rfl rfl rfl ?_ | refine TL.extract rfl rfl rfl rfl ?_ | refine TL.maxI rfl rfl rfl rfl ?_ | refine TL.minI rfl rfl rfl rfl ?_ | refine TL.nilCheckF rfl rfl rfl ?_ | refine TL.nil ?_ | refine T.seqK fun K hK => ?_ | (refine T.regionO fun ops => ?_) | refine T.condT rfl ?_ | refine T.condF rfl ?_ | refine T.block ?_ | refine T.skip ?_ | refine T.ret ?_ | refine T.exit ?_ | (refine hK _ _ ?_; clear hK K) | clear hK K | clear ops)
  refine TL.alloc rfl rfl fun b8 w5 hal => ?_
  have h85 : Row w5 b8 (ncs nils nils 0 0 z32 z32) 110 (0, 0) := hal.at_
  refine TL.storeRA (A := []) (C := []) (old := ncs nils nils 0 0 z32 z32) (xs := ncs kv vv (ndO s).h (ndO s).s (ndO s).L (ndO s).R) rfl rfl rfl (by simpa using h85) rfl (by simp [Value.cells]) (by rw [hln]; rfl) hln (ncs_one (By.one hk4) (By.one hv4)) fun w6 hg6 h8 hs6 => ?_
  simp only [List.nil_append, List.append_nil] at h8
  have hb8 : w4.heap.size = b8 := hal.num.symm
  have hw46 : Ext w4 w6 := Below.trans hal.below (below_grown hg6 (by omega) hal.below.size)
  have hw6 : Ext w w6 := hw4.trans hw46
  have hw36 : Ext w3 w6 := hw34.trans hw46
  have hb38 : w3.heap.size ≤ b8 := by rw [← hb8]; exact hw34.size
  have h4lt := h4.lt
  have h6lt := h6.lt
  have h48 : b4 < b8 := by omega
  have h68 : b6 < b8 := by omega
  have h4 := h4.keepA hw36
  have h6 := h6.keepA hw36
  have hD3 : ∀ k, tv.ownBlock = some k → k < b8 := fun k hk => by have := (hT.blk k hk).2; omega
  have hD4 : ∀ k, wv.ownBlock = some k → k < b8 := fun k hk => by have := (hW.blk k hk).2; omega
  replace hT := hT.keep hw36
  replace hW := hW.keep hw36
  replace hk4 := By.ext hk4 hw46
  replace hv4 := By.ext hv4 hw46
  clear hg6 h85 hal hs6
  repeat (first | refine TL.move rfl rfl rfl ?_ | refine TL.assign rfl rfl rfl ?_ | refine TL.nilCheck rfl rfl rfl ?_ | refine TL.fieldAddr rfl rfl rfl ?_ | refine TL.convI rfl rfl rfl ?_ | refine TL.cmpI rfl rfl rfl rfl rfl ?_ | refine TL.arith rfl rfl rfl rfl rfl ?_ | refine TL.lenS rfl rfl rfl ?_ | refine TL.lenStr rfl rfl rfl ?_ | refine TL.not rfl rfl rfl ?_ | refine TL.skipG rfl rfl ?_ | refine TL.pickT rfl rfl rfl rfl ?_ | refine TL.pickF rfl rfl rfl rfl ?_ | refine TL.extract rfl rfl rfl rfl ?_ | refine TL.maxI rfl rfl rfl rfl ?_ | refine TL.minI rfl rfl rfl rfl ?_ | refine TL.nilCheckF rfl rfl rfl ?_ | refine TL.nil ?_ | refine T.seqK fun K hK => ?_ | (refine T.regionO fun ops => ?_) | refine T.condT rfl ?_ | refine T.condF rfl ?_ | refine T.block ?_ | refine T.skip ?_ | refine T.ret ?_ | refine T.exit ?_ | (refine hK _ _ ?_; clear hK K) | clear hK K | clear ops)
  refine T.cond rfl (fun hc => ?_) (fun hc => ?_)
  · have hsn : s = none := by cases s with
      | none => rfl
      | some t' => simp at hc
    subst hsn
    repeat (first | refine TL.move rfl rfl rfl ?_ | refine TL.assign rfl rfl rfl ?_ | refine TL.nilCheck rfl rfl rfl ?_ | refine TL.fieldAddr rfl rfl rfl ?_ | refine TL.convI rfl rfl rfl ?_ | refine TL.cmpI rfl rfl rfl rfl rfl ?_ | refine TL.arith rfl rfl rfl rfl rfl ?_ | refine TL.lenS rfl rfl rfl ?_ | refine TL.lenStr rfl rfl rfl ?_ | refine TL.not rfl rfl rfl ?_ | refine TL.skipG rfl rfl ?_ | refine TL.pickT rfl rfl rfl rfl ?_ | refine TL.pickF rfl rfl rfl rfl ?_ | refine TL.extract rfl rfl rfl rfl ?_ | refine TL.maxI rfl rfl rfl rfl ?_ | refine TL.minI rfl rfl rfl rfl ?_ | refine TL.nilCheckF rfl rfl rfl ?_ | refine TL.nil ?_ | refine T.seqK fun K hK => ?_ | (refine T.regionO fun ops => ?_) | refine T.condT rfl ?_ | refine T.condF rfl ?_ | refine T.block ?_ | refine T.skip ?_ | refine T.ret ?_ | refine T.exit ?_ | (refine hK _ _ ?_; clear hK K) | clear hK K | clear ops)
    refine TL.ev rfl rfl (Ev.build (parts := []) (out := [nils, nils, nils]) rfl rfl) ?_
    refine TL.storeRA (A := []) (C := []) (old := [nils, nils, nils]) (xs := [nils, nils, nils]) rfl rfl rfl (by simpa using h4) rfl (by simp [Value.cells]) rfl rfl (by simp [oc_slice]) fun w7 hg7 h47 hs7 => ?_
    repeat (first | refine TL.move rfl rfl rfl ?_ | refine TL.assign rfl rfl rfl ?_ | refine TL.nilCheck rfl rfl rfl ?_ | refine TL.fieldAddr rfl rfl rfl ?_ | refine TL.convI rfl rfl rfl ?_ | refine TL.cmpI rfl rfl rfl rfl rfl ?_ | refine TL.arith rfl rfl rfl rfl rfl ?_ | refine TL.lenS rfl rfl rfl ?_ | refine TL.lenStr rfl rfl rfl ?_ | refine TL.not rfl rfl rfl ?_ | refine TL.skipG rfl rfl ?_ | refine TL.pickT rfl rfl rfl rfl ?_ | refine TL.pickF rfl rfl rfl rfl ?_ | refine TL.extract rfl rfl rfl rfl ?_ | refine TL.maxI rfl rfl rfl rfl ?_ | refine TL.minI rfl rfl rfl rfl ?_ | refine TL.nilCheckF rfl rfl rfl ?_ | refine TL.nil ?_ | refine T.seqK fun K hK => ?_ | (refine T.regionO fun ops => ?_) | refine T.condT rfl ?_ | refine T.condF rfl ?_ | refine T.block ?_ | refine T.skip ?_ | refine T.ret ?_ | refine T.exit ?_ | (refine hK _ _ ?_; clear hK K) | clear hK K | clear ops)
    rw [hno rfl]
    exact ⟨_, ResV.cellA1 (xs := [nils, nils, nils]) rfl rfl (fun j u hu => by rw [h47.cell]; simpa using hu) rfl, Below.trans hw6 (below_grown hg7 hb4 hw6.size), _, rfl, IsPF.nil _ _⟩
  · obtain ⟨t', rfl⟩ : ∃ t', s = some t' := by cases s with
      | none => simp at hc
      | some t' => exact ⟨t', rfl⟩
    obtain ⟨t0, rfl⟩ : ∃ t0, o = some t0 := by cases o with
      | none => simp [atO] at hat
      | some t0 => exact ⟨t0, rfl⟩
    have hat' : t0.at_ ws = some t' := hat
    obtain ⟨hdk, hdv, hdt⟩ := hdn t' rfl
    simp only [ndO] at hk4 hv4 h8 hok hln
    repeat (first | refine TL.move rfl rfl rfl ?_ | refine TL.assign rfl rfl rfl ?_ | refine TL.nilCheck rfl rfl rfl ?_ | refine TL.fieldAddr rfl rfl rfl ?_ | refine TL.convI rfl rfl rfl ?_ | refine TL.cmpI rfl rfl rfl rfl rfl ?_ | refine TL.arith rfl rfl rfl rfl rfl ?_ | refine TL.lenS rfl rfl rfl ?_ | refine TL.lenStr rfl rfl rfl ?_ | refine TL.not rfl rfl rfl ?_ | refine TL.skipG rfl rfl ?_ | refine TL.pickT rfl rfl rfl rfl ?_ | refine TL.pickF rfl rfl rfl rfl ?_ | refine TL.extract rfl rfl rfl rfl ?_ | refine TL.maxI rfl rfl rfl rfl ?_ | refine TL.minI rfl rfl rfl rfl ?_ | refine TL.nilCheckF rfl rfl rfl ?_ | refine TL.nil ?_ | refine T.seqK fun K hK => ?_ | (refine T.regionO fun ops => ?_) | refine T.condT rfl ?_ | refine T.condF rfl ?_ | refine T.block ?_ | refine T.skip ?_ | refine T.ret ?_ | refine T.exit ?_ | (refine hK _ _ ?_; clear hK K) | clear hK K | clear ops)
    refine TL.loadR (v := .int .i64 t'.ht) rfl rfl rfl h8 rfl ?_
    cases t' with
    | leaf k v =>
      refine TL.cmpI (c := true) rfl rfl rfl rfl rfl ?_
      repeat (first | refine TL.move rfl rfl rfl ?_ | refine TL.assign rfl rfl rfl ?_ | refine TL.nilCheck rfl rfl rfl ?_ | refine TL.fieldAddr rfl rfl rfl ?_ | refine TL.convI rfl rfl rfl ?_ | refine TL.cmpI rfl rfl rfl rfl rfl ?_ | refine TL.arith rfl rfl rfl rfl rfl ?_ | refine TL.lenS rfl rfl rfl ?_ | refine TL.lenStr rfl rfl rfl ?_ | refine TL.not rfl rfl rfl ?_ | refine TL.skipG rfl rfl ?_ | refine TL.pickT rfl rfl rfl rfl ?_ | refine TL.pickF rfl rfl rfl rfl ?_ | refine TL.extract rfl rfl rfl rfl ?_ | refine TL.maxI rfl rfl rfl rfl ?_ | refine TL.minI rfl rfl rfl rfl ?_ | refine TL.nilCheckF rfl rfl rfl ?_ | refine TL.nil ?_ | refine T.seqK fun K hK => ?_ | (refine T.regionO fun ops => ?_) | refine T.condT rfl ?_ | refine T.condF rfl ?_ | refine T.block ?_ | refine T.skip ?_ | refine T.ret ?_ | refine T.exit ?_ | (refine hK _ _ ?_; clear hK K) | clear hK K | clear ops)
      refine T.drawKZ 5 6 (Gr.pre b6) Ext.pre (Gr.inc b6) Tryd.mixed (by kernel_rfl) fun ops w7 hb7 hh7 K hK => ?_
      have h87 := h8.keepA hb7
      have h67 := h6.keepA hb7
      simp only [List.take_succ_cons, List.take_zero]
      refine DRZ.v Ext.refl _ rfl rfl (fun w' σ he => Ev.fieldAddr rfl) ?_
      refine DRZ.v Ext.refl _ rfl rfl (fun w' σ he => Ev.loadR rfl (h87.keepG he (by simp; omega)) rfl) ?_
      refine DRZ.v Ext.refl _ rfl rfl (fun w' σ he => Ev.fieldAddr rfl) ?_
      refine DRZ.v Ext.refl _ rfl rfl (fun w' σ he => Ev.loadR rfl (h87.keepG he (by simp; omega)) rfl) ?_
      refine DRZ.v Ext.refl _ rfl rfl (fun w' σ he => Ev.fieldAddr rfl) ?_
      refine DRZ.st (fun w => Row w b6 [kv, nils, tv] 35 (0, 0)) rfl (fun w1 w2 h e => h.keepA e) (fun w' σ he hσ => ?_) ?_
      · refine TL.storeRS (i := 0) rfl rfl rfl (h67.keepA he) rfl (by simp) (By.one hk4) fun w8 hg8 h68' hs8 => TL.nil ⟨hg8, h68'⟩
      refine DRZ.nil (hK _ fun w8 σ he hσ hσ2 => ?_)
      simp only [List.drop_succ_cons, List.drop_zero]
      clear hK K
      obtain ⟨_, h68'⟩ := hσ2 (57 + 5) _ rfl
      have hw7 : Ext w w7 := hw6.trans hb7
      have hw8 : Ext w w8 := Below.trans hw7 (below_grown he hb6 hw7.size)
      have h48' := (h4.keepA hb7).keepG he (by simp; omega)
      refine TL.fieldAddr rfl rfl rfl ?_
      refine TL.storeRS (i := 1) rfl rfl rfl h68' rfl (by simp) (By.one hv4) fun w9 hg9 h69 hs9 => ?_
      have hw9 : Ext w w9 := Below.trans hw8 (below_grown hg9 hb6 hw8.size)
      have h49 := h48'.keepG hg9 (by simp; omega)
      have h69' : Row w9 b6 [kv, vv, tv] 35 (0, 0) := h69
      obtain ⟨ta, tc, htv⟩ := hT.shape
      repeat (first | refine TL.move rfl rfl rfl ?_ | refine TL.assign rfl rfl rfl ?_ | refine TL.nilCheck rfl rfl rfl ?_ | refine TL.fieldAddr rfl rfl rfl ?_ | refine TL.convI rfl rfl rfl ?_ | refine TL.cmpI rfl rfl rfl rfl rfl ?_ | refine TL.arith rfl rfl rfl rfl rfl ?_ | refine TL.lenS rfl rfl rfl ?_ | refine TL.lenStr rfl rfl rfl ?_ | refine TL.not rfl rfl rfl ?_ | refine TL.skipG rfl rfl ?_ | refine TL.pickT rfl rfl rfl rfl ?_ | refine TL.pickF rfl rfl rfl rfl ?_ | refine TL.extract rfl rfl rfl rfl ?_ | refine TL.maxI rfl rfl rfl rfl ?_ | refine TL.minI rfl rfl rfl rfl ?_ | refine TL.nilCheckF rfl rfl rfl ?_ | refine TL.nil ?_ | refine T.seqK fun K hK => ?_ | (refine T.regionO fun ops => ?_) | refine T.condT rfl ?_ | refine T.condF rfl ?_ | refine T.block ?_ | refine T.skip ?_ | refine T.ret ?_ | refine T.exit ?_ | (refine hK _ _ ?_; clear hK K) | clear hK K | clear ops)
      refine TL.ev rfl rfl (Ev.loadRA (xs := [kv, vv, tv]) rfl h69' rfl rfl) ?_
      refine TL.storeRA (A := []) (C := []) (old := [nils, nils, nils]) (xs := [kv, vv, tv]) rfl rfl rfl (by simpa using h49) rfl (by simp [Value.cells]) rfl rfl (by
        intro u hu
        simp at hu
        rcases hu with rfl | rfl | rfl
        · exact By.one hk4
        · exact By.one hv4
        · rw [htv]; rfl) fun w10 hg10 h410 hs10 => ?_
      repeat (first | refine TL.move rfl rfl rfl ?_ | refine TL.assign rfl rfl rfl ?_ | refine TL.nilCheck rfl rfl rfl ?_ | refine TL.fieldAddr rfl rfl rfl ?_ | refine TL.convI rfl rfl rfl ?_ | refine TL.cmpI rfl rfl rfl rfl rfl ?_ | refine TL.arith rfl rfl rfl rfl rfl ?_ | refine TL.lenS rfl rfl rfl ?_ | refine TL.lenStr rfl rfl rfl ?_ | refine TL.not rfl rfl rfl ?_ | refine TL.skipG rfl rfl ?_ | refine TL.pickT rfl rfl rfl rfl ?_ | refine TL.pickF rfl rfl rfl rfl ?_ | refine TL.extract rfl rfl rfl rfl ?_ | refine TL.maxI rfl rfl rfl rfl ?_ | refine TL.minI rfl rfl rfl rfl ?_ | refine TL.nilCheckF rfl rfl rfl ?_ | refine TL.nil ?_ | refine T.seqK fun K hK => ?_ | (refine T.regionO fun ops => ?_) | refine T.condT rfl ?_ | refine T.condF rfl ?_ | refine T.block ?_ | refine T.skip ?_ | refine T.ret ?_ | refine T.exit ?_ | (refine hK _ _ ?_; clear hK K) | clear hK K | clear ops)
      have hw10 : Ext w w10 := Below.trans hw9 (below_grown hg10 hb4 hw9.size)
      have hD1' : ∀ k, tv.ownBlock = some k → some k ≠ some b6 ∧ some k ≠ some b4 := fun k hk => ⟨by simpa using (hD1 k hk).2.1, by simpa using (hD1 k hk).1⟩
      have o6 : tv.ownBlock = none ∨ tv.ownBlock ≠ some b6 := by
        cases hh : tv.ownBlock with
        | none => exact .inl rfl
        | some k => exact .inr (hD1' k hh).1
      have o4 : tv.ownBlock = none ∨ tv.ownBlock ≠ some b4 := by
        cases hh : tv.ownBlock with
        | none => exact .inl rfl
        | some k => exact .inr (hD1' k hh).2
      have hT10 := (((hT.keep hb7).keepG turnE_flat he o6 (fun k hk => by cases hk; exact hb6)).keepG turnE_flat hg9 o6 (fun k hk => by cases hk; exact hb6)).keepG turnE_flat hg10 o4 (fun k hk => by cases hk; exact hb4)
      have keepB : ∀ {u : Value} {x : List UInt8}, By (w3.heap.size ≤ ·) w6 u x → By (w.heap.size ≤ ·) w10 u x := fun hu =>
        By.sub (F := fun k => w3.heap.size ≤ k) ((((By.ext hu hb7).keep (Same.ofGrown he fun k hk => by have := h6lt; simp; omega)).keep (Same.ofGrown hg9 fun k hk => by have := h6lt; simp; omega)).keep (Same.ofGrown hg10 fun k hk => by have := h4lt; simp; omega)) fun k hk => Nat.le_trans hw3.size hk
      have e : downO g (some t0) = ⟨k, v, ts⟩ := by
        cases hh : downO g (some t0) with
        | mk a b c => simp [hh, downT] at hdk hdv hdt; simp [hdk, hdv, hdt]
      refine ⟨_, ResV.cellA1 (xs := [kv, vv, tv]) rfl rfl (fun j u hu => by rw [h410.cell]; simpa using hu) rfl, hw10, _, rfl, ?_⟩
      rw [e]
      exact ⟨kv, vv, tv, rfl, keepB hk4, keepB hv4, hT10.lsrB turnE_flat⟩
    | node l r =>
      refine TL.cmpI (c := false) rfl rfl rfl rfl (cmpI_eqF (by simp only [Tr.ht]; omega)) ?_
      repeat (first | refine TL.move rfl rfl rfl ?_ | refine TL.assign rfl rfl rfl ?_ | refine TL.nilCheck rfl rfl rfl ?_ | refine TL.fieldAddr rfl rfl rfl ?_ | refine TL.convI rfl rfl rfl ?_ | refine TL.cmpI rfl rfl rfl rfl rfl ?_ | refine TL.arith rfl rfl rfl rfl rfl ?_ | refine TL.lenS rfl rfl rfl ?_ | refine TL.lenStr rfl rfl rfl ?_ | refine TL.not rfl rfl rfl ?_ | refine TL.skipG rfl rfl ?_ | refine TL.pickT rfl rfl rfl rfl ?_ | refine TL.pickF rfl rfl rfl rfl ?_ | refine TL.extract rfl rfl rfl rfl ?_ | refine TL.maxI rfl rfl rfl rfl ?_ | refine TL.minI rfl rfl rfl rfl ?_ | refine TL.nilCheckF rfl rfl rfl ?_ | refine TL.nil ?_ | refine T.seqK fun K hK => ?_ | (refine T.regionO fun ops => ?_) | refine T.condT rfl ?_ | refine T.condF rfl ?_ | refine T.block ?_ | refine T.skip ?_ | refine T.ret ?_ | refine T.exit ?_ | (refine hK _ _ ?_; clear hK K) | clear hK K | clear ops)
      refine TL.ev rfl rfl (Ev.loadRA (xs := ncs kv vv (Tr.node l r).nd.h (Tr.node l r).nd.s (Tr.node l r).nd.L (Tr.node l r).nd.R) rfl h8 (List.take_of_length_le (Nat.le_of_eq hln)) hln) ?_
      refine TL.callV (vs := [.agg (ncs kv vv (Tr.node l r).nd.h (Tr.node l r).nd.s (Tr.node l r).nd.L (Tr.node l r).nd.R).toArray]) rfl rfl rfl rfl (hans w6 (Tr.node l r).nd _ hw6 hok ⟨kv, vv, rfl, By.any hk4, By.any hv4⟩) ?_
      rintro _ w7 ⟨rfl, hw67⟩
      have h87 := h8.keepA hw67
      repeat (first | refine TL.move rfl rfl rfl ?_ | refine TL.assign rfl rfl rfl ?_ | refine TL.nilCheck rfl rfl rfl ?_ | refine TL.fieldAddr rfl rfl rfl ?_ | refine TL.convI rfl rfl rfl ?_ | refine TL.cmpI rfl rfl rfl rfl rfl ?_ | refine TL.arith rfl rfl rfl rfl rfl ?_ | refine TL.lenS rfl rfl rfl ?_ | refine TL.lenStr rfl rfl rfl ?_ | refine TL.not rfl rfl rfl ?_ | refine TL.skipG rfl rfl ?_ | refine TL.pickT rfl rfl rfl rfl ?_ | refine TL.pickF rfl rfl rfl rfl ?_ | refine TL.extract rfl rfl rfl rfl ?_ | refine TL.maxI rfl rfl rfl rfl ?_ | refine TL.minI rfl rfl rfl rfl ?_ | refine TL.nilCheckF rfl rfl rfl ?_ | refine TL.nil ?_ | refine T.seqK fun K hK => ?_ | (refine T.regionO fun ops => ?_) | refine T.condT rfl ?_ | refine T.condF rfl ?_ | refine T.block ?_ | refine T.skip ?_ | refine T.ret ?_ | refine T.exit ?_ | (refine hK _ _ ?_; clear hK K) | clear hK K | clear ops)
      refine TL.ev rfl rfl (Ev.loadRA (xs := (Tr.node l r).nd.R.map vb) rfl h87 (by simp [ncs, hok.L]; exact List.take_of_length_le (by simp [hok.R])) (by simp [hok.R])) ?_
      refine TL.alloc rfl rfl fun b11 w8 hal8 => ?_
      have hz : Row w8 b11 (z32.map vb) 54 (0, 0) := hal8.at_
      refine TL.storeRA (A := []) (C := []) (old := z32.map vb) (xs := (Tr.node l r).nd.R.map vb) rfl rfl rfl (by simpa using hz) rfl (by simp [Value.cells]) (by simp [z32, hok.R]) (by simp [hok.R]) (vb_all _) fun w9 hg9 h11 hs9 => ?_
      simp only [List.nil_append, List.append_nil] at h11
      have hb11 : w7.heap.size ≤ b11 := by rw [hal8.num]; exact Nat.le_refl _
      have hw79 : Ext w7 w9 := Below.trans hal8.below (below_grown hg9 hb11 hal8.below.size)
      have hw69 : Ext w6 w9 := hw67.trans hw79
      have hw9 : Ext w w9 := hw6.trans hw69
      have h89 := h87.keepA hw79
      have h49 := h4.keepA hw69
      have h69 := h6.keepA hw69
      have hT9 := hT.keep hw69
      have hW9 := hW.keep hw69
      have hb8' : b8 < w7.heap.size := h87.lt
      have hb6' : b6 < w7.heap.size := Nat.lt_of_lt_of_le h6lt (Nat.le_trans hw36.size hw67.size)
      have hb4' : b4 < w7.heap.size := Nat.lt_of_lt_of_le h4lt (Nat.le_trans hw36.size hw67.size)
      clear hal8 hz hg9 hs9 h8 h87 hT hW h4 h6 hdk hdv
      repeat (first | refine TL.move rfl rfl rfl ?_ | refine TL.assign rfl rfl rfl ?_ | refine TL.nilCheck rfl rfl rfl ?_ | refine TL.fieldAddr rfl rfl rfl ?_ | refine TL.convI rfl rfl rfl ?_ | refine TL.cmpI rfl rfl rfl rfl rfl ?_ | refine TL.arith rfl rfl rfl rfl rfl ?_ | refine TL.lenS rfl rfl rfl ?_ | refine TL.lenStr rfl rfl rfl ?_ | refine TL.not rfl rfl rfl ?_ | refine TL.skipG rfl rfl ?_ | refine TL.pickT rfl rfl rfl rfl ?_ | refine TL.pickF rfl rfl rfl rfl ?_ | refine TL.extract rfl rfl rfl rfl ?_ | refine TL.maxI rfl rfl rfl rfl ?_ | refine TL.minI rfl rfl rfl rfl ?_ | refine TL.nilCheckF rfl rfl rfl ?_ | refine TL.nil ?_ | refine T.seqK fun K hK => ?_ | (refine T.regionO fun ops => ?_) | refine T.condT rfl ?_ | refine T.condF rfl ?_ | refine T.block ?_ | refine T.skip ?_ | refine T.ret ?_ | refine T.exit ?_ | (refine hK _ _ ?_; clear hK K) | clear hK K | clear ops)
      have hrest : ∀ (L' : Sl) (w' : World), Less [(0, p), (1, .func (.func fi) fs cs), (4, .pointer (some ⟨b4, 0, none⟩)), (5, .bool false), (6, .pointer (some ⟨b6, 0, none⟩)), (7, wv), (8, .pointer (some ⟨b8, 0, none⟩)), (10, .bool (g (Tr.node l r).nd)), (11, .pointer (some ⟨b11, 0, none⟩))] L' →
          w9.grownBy w' (some b11) → Row w' b11 ((if g (Tr.node l r).nd then (Tr.node l r).nd.L else (Tr.node l r).nd.R).map vb) 54 (0, 0) → K L' w' := by
        intro L' w' hL' hg' h11'
        refine hK _ _ (T.sub hL' ?_)
        clear hK K
        have hol : (if g (Tr.node l r).nd then (Tr.node l r).nd.L else (Tr.node l r).nd.R).length = 32 := by split; exact hok.L; exact hok.R
        generalize hoth : (if g (Tr.node l r).nd then (Tr.node l r).nd.L else (Tr.node l r).nd.R) = oth at h11' hol
        have hw' : Ext w w' := Below.trans hw9 (below_grown hg' (by omega) hw9.size)
        have h8a := h89.keepG hg' (by simp; omega)
        have h4a := h49.keepG hg' (by simp; omega)
        have h6a := h69.keepG hg' (by simp; omega)
        have n11 : ∀ {u : Value}, (∀ k, u.ownBlock = some k → k < b8) → (u.ownBlock = none ∨ u.ownBlock ≠ some b11) := fun {u} hu => by
          cases hh : u.ownBlock with
          | none => exact .inl rfl
          | some k => exact .inr (by have := hu k hh; simp; omega)
        have hTa := hT9.keepG turnE_flat hg' (n11 hD3) (fun k hk => by cases hk; omega)
        have hWa := hW9.keepG hg' (n11 hD4) (fun k hk => by cases hk; omega)
        repeat (first | refine TL.move rfl rfl rfl ?_ | refine TL.assign rfl rfl rfl ?_ | refine TL.nilCheck rfl rfl rfl ?_ | refine TL.fieldAddr rfl rfl rfl ?_ | refine TL.convI rfl rfl rfl ?_ | refine TL.cmpI rfl rfl rfl rfl rfl ?_ | refine TL.arith rfl rfl rfl rfl rfl ?_ | refine TL.lenS rfl rfl rfl ?_ | refine TL.lenStr rfl rfl rfl ?_ | refine TL.not rfl rfl rfl ?_ | refine TL.skipG rfl rfl ?_ | refine TL.pickT rfl rfl rfl rfl ?_ | refine TL.pickF rfl rfl rfl rfl ?_ | refine TL.extract rfl rfl rfl rfl ?_ | refine TL.maxI rfl rfl rfl rfl ?_ | refine TL.minI rfl rfl rfl rfl ?_ | refine TL.nilCheckF rfl rfl rfl ?_ | refine TL.nil ?_ | refine T.seqK fun K hK => ?_ | (refine T.regionO fun ops => ?_) | refine T.condT rfl ?_ | refine T.condF rfl ?_ | refine T.block ?_ | refine T.skip ?_ | refine T.ret ?_ | refine T.exit ?_ | (refine hK _ _ ?_; clear hK K) | clear hK K | clear ops)
        refine TL.loadR rfl rfl rfl h6a rfl ?_
        repeat (first | refine TL.move rfl rfl rfl ?_ | refine TL.assign rfl rfl rfl ?_ | refine TL.nilCheck rfl rfl rfl ?_ | refine TL.fieldAddr rfl rfl rfl ?_ | refine TL.convI rfl rfl rfl ?_ | refine TL.cmpI rfl rfl rfl rfl rfl ?_ | refine TL.arith rfl rfl rfl rfl rfl ?_ | refine TL.lenS rfl rfl rfl ?_ | refine TL.lenStr rfl rfl rfl ?_ | refine TL.not rfl rfl rfl ?_ | refine TL.skipG rfl rfl ?_ | refine TL.pickT rfl rfl rfl rfl ?_ | refine TL.pickF rfl rfl rfl rfl ?_ | refine TL.extract rfl rfl rfl rfl ?_ | refine TL.maxI rfl rfl rfl rfl ?_ | refine TL.minI rfl rfl rfl rfl ?_ | refine TL.nilCheckF rfl rfl rfl ?_ | refine TL.nil ?_ | refine T.seqK fun K hK => ?_ | (refine T.regionO fun ops => ?_) | refine T.condT rfl ?_ | refine T.condF rfl ?_ | refine T.block ?_ | refine T.skip ?_ | refine T.ret ?_ | refine T.exit ?_ | (refine hK _ _ ?_; clear hK K) | clear hK K | clear ops)
        refine TL.loadR rfl rfl rfl h8a rfl ?_
        repeat (first | refine TL.move rfl rfl rfl ?_ | refine TL.assign rfl rfl rfl ?_ | refine TL.nilCheck rfl rfl rfl ?_ | refine TL.fieldAddr rfl rfl rfl ?_ | refine TL.convI rfl rfl rfl ?_ | refine TL.cmpI rfl rfl rfl rfl rfl ?_ | refine TL.arith rfl rfl rfl rfl rfl ?_ | refine TL.lenS rfl rfl rfl ?_ | refine TL.lenStr rfl rfl rfl ?_ | refine TL.not rfl rfl rfl ?_ | refine TL.skipG rfl rfl ?_ | refine TL.pickT rfl rfl rfl rfl ?_ | refine TL.pickF rfl rfl rfl rfl ?_ | refine TL.extract rfl rfl rfl rfl ?_ | refine TL.maxI rfl rfl rfl rfl ?_ | refine TL.minI rfl rfl rfl rfl ?_ | refine TL.nilCheckF rfl rfl rfl ?_ | refine TL.nil ?_ | refine T.seqK fun K hK => ?_ | (refine T.regionO fun ops => ?_) | refine T.condT rfl ?_ | refine T.condF rfl ?_ | refine T.block ?_ | refine T.skip ?_ | refine T.ret ?_ | refine T.exit ?_ | (refine hK _ _ ?_; clear hK K) | clear hK K | clear ops)
        refine TL.loadR rfl rfl rfl h8a rfl ?_
        repeat (first | refine TL.move rfl rfl rfl ?_ | refine TL.assign rfl rfl rfl ?_ | refine TL.nilCheck rfl rfl rfl ?_ | refine TL.fieldAddr rfl rfl rfl ?_ | refine TL.convI rfl rfl rfl ?_ | refine TL.cmpI rfl rfl rfl rfl rfl ?_ | refine TL.arith rfl rfl rfl rfl rfl ?_ | refine TL.lenS rfl rfl rfl ?_ | refine TL.lenStr rfl rfl rfl ?_ | refine TL.not rfl rfl rfl ?_ | refine TL.skipG rfl rfl ?_ | refine TL.pickT rfl rfl rfl rfl ?_ | refine TL.pickF rfl rfl rfl rfl ?_ | refine TL.extract rfl rfl rfl rfl ?_ | refine TL.maxI rfl rfl rfl rfl ?_ | refine TL.minI rfl rfl rfl rfl ?_ | refine TL.nilCheckF rfl rfl rfl ?_ | refine TL.nil ?_ | refine T.seqK fun K hK => ?_ | (refine T.regionO fun ops => ?_) | refine T.condT rfl ?_ | refine T.condF rfl ?_ | refine T.block ?_ | refine T.skip ?_ | refine T.ret ?_ | refine T.exit ?_ | (refine hK _ _ ?_; clear hK K) | clear hK K | clear ops)
        refine TL.ev rfl rfl (Ev.loadRA (xs := oth.map vb) rfl h11' (List.take_of_length_le (by simp [hol])) (by simp [hol])) ?_
        refine TL.ev rfl rfl (Ev.build (out := tnc ⟨(Tr.node l r).nd.h, (Tr.node l r).nd.s, g (Tr.node l r).nd, oth⟩) rfl (by simp [fillW, Value.cells, hol, tnc])) ?_
        generalize htn : (⟨(Tr.node l r).nd.h, (Tr.node l r).nd.s, g (Tr.node l r).nd, oth⟩ : Tn) = tn
        have htl : (tnc tn).length = 35 := by subst htn; simp [tnc, hol]
        have hrel : turnE.rel (fun _ => False) w' (tnc tn) tn := ⟨rfl, by subst htn; exact hol⟩
        refine TL.buildSliceN (vs := [.agg (tnc tn).toArray]) rfl rfl rfl rfl rfl (by simp [Value.cells, htl]) rfl rfl rfl fun b13 w10 hal10 => ?_
        have hal10' : Al w' w10 b13 (.cells (tnc tn).toArray 116) := by simpa [Value.cells] using hal10
        have hrd10 := Al.rdN (sz := 35) (len := 1) hal10' htl (by simp [maxLen])
        have hx10 : Ext w' w10 := hal10.below
        have hsT : szO (some (Tr.node l r)) + ts.length ≤ szO (some t0) := by omega
        have hszn := Tr.sz_pos r
        have hszl := Tr.sz_pos l
        simp only [szO, Tr.sz] at hsT hm2 hs
        clear hal10 hal10'
        refine TL.pushE (E := turnE) (G := fun _ => False) (a := tn) rfl rfl rfl rfl rfl (hTa.keep hx10) hrd10 (turnE_flat _ _ _ _ _ _ hrel) (fun _ h => h.elim) rfl (by omega) (by simp [maxLen]; omega) fun tv2 w11 hT11 hg11 ho11 => ?_
        have oB : ∀ {x : Nat}, (∀ k, tv.ownBlock = some k → k ≠ x) → some x ≠ tv.ownBlock := fun {x} hx hh => hx x hh.symm rfl
        have h6b := (h6a.keepA hx10).keepG hg11 (oB fun k hk => (hD1 k hk).2.1)
        have h4b := (h4a.keepA hx10).keepG hg11 (oB fun k hk => (hD1 k hk).1)
        have hWb := (hWa.keep hx10).keepG hg11 (by
          cases hh : wv.ownBlock with
          | none => exact .inl rfl
          | some k => exact .inr (fun he => (hD1 k he.symm).2.2 hh)) (fun k hk => ((hTa.keep hx10).blk k hk).1)
        obtain ⟨t2a, t2c, ht2⟩ := hT11.shape
        repeat (first | refine TL.move rfl rfl rfl ?_ | refine TL.assign rfl rfl rfl ?_ | refine TL.nilCheck rfl rfl rfl ?_ | refine TL.fieldAddr rfl rfl rfl ?_ | refine TL.convI rfl rfl rfl ?_ | refine TL.cmpI rfl rfl rfl rfl rfl ?_ | refine TL.arith rfl rfl rfl rfl rfl ?_ | refine TL.lenS rfl rfl rfl ?_ | refine TL.lenStr rfl rfl rfl ?_ | refine TL.not rfl rfl rfl ?_ | refine TL.skipG rfl rfl ?_ | refine TL.pickT rfl rfl rfl rfl ?_ | refine TL.pickF rfl rfl rfl rfl ?_ | refine TL.extract rfl rfl rfl rfl ?_ | refine TL.maxI rfl rfl rfl rfl ?_ | refine TL.minI rfl rfl rfl rfl ?_ | refine TL.nilCheckF rfl rfl rfl ?_ | refine TL.nil ?_ | refine T.seqK fun K hK => ?_ | (refine T.regionO fun ops => ?_) | refine T.condT rfl ?_ | refine T.condF rfl ?_ | refine T.block ?_ | refine T.skip ?_ | refine T.ret ?_ | refine T.exit ?_ | (refine hK _ _ ?_; clear hK K) | clear hK K | clear ops)
        refine TL.storeRS (i := 2) rfl rfl rfl h6b rfl (by simp) (by rw [ht2]; rfl) fun w12 hg12 h6c hs12 => ?_
        have h6c' : Row w12 b6 [nils, nils, tv2] 35 (0, 0) := h6c
        have hx6 : ∀ k, tv2.ownBlock = some k → k ≠ b6 := fun k hk => by
          rcases ho11 k hk with hh | hh
          · exact (hD1 k hh).2.1
          · have := (h6a.keepA hx10).lt; omega
        have hx4 : ∀ k, tv2.ownBlock = some k → k ≠ b4 := fun k hk => by
          rcases ho11 k hk with hh | hh
          · exact (hD1 k hh).1
          · have := (h4a.keepA hx10).lt; omega
        have nn : ∀ {u : Value} {x : Nat}, (∀ k, u.ownBlock = some k → k ≠ x) → (u.ownBlock = none ∨ u.ownBlock ≠ some x) := fun {u x} hu => by
          cases hh : u.ownBlock with
          | none => exact .inl rfl
          | some k => exact .inr (by have := hu k hh; simp; omega)
        have hT12 := hT11.keepG turnE_flat hg12 (nn hx6) (fun k hk => by cases hk; exact hb6)
        have hW12 := hWb.keepG hg12 (nn fun k hk => (hD2 k hk).2) (fun k hk => by cases hk; exact hb6)
        have h4c := h4b.keepG hg12 (by simp; omega)
        have hwt : ∀ k, tv2.ownBlock = some k → wv.ownBlock ≠ some k := fun k hk => by
          rcases ho11 k hk with hh | hh
          · exact (hD1 k hh).2.2
          · intro h2; have := ((hWa.keep hx10).blk k h2).2; omega
        repeat (first | refine TL.move rfl rfl rfl ?_ | refine TL.assign rfl rfl rfl ?_ | refine TL.nilCheck rfl rfl rfl ?_ | refine TL.fieldAddr rfl rfl rfl ?_ | refine TL.convI rfl rfl rfl ?_ | refine TL.cmpI rfl rfl rfl rfl rfl ?_ | refine TL.arith rfl rfl rfl rfl rfl ?_ | refine TL.lenS rfl rfl rfl ?_ | refine TL.lenStr rfl rfl rfl ?_ | refine TL.not rfl rfl rfl ?_ | refine TL.skipG rfl rfl ?_ | refine TL.pickT rfl rfl rfl rfl ?_ | refine TL.pickF rfl rfl rfl rfl ?_ | refine TL.extract rfl rfl rfl rfl ?_ | refine TL.maxI rfl rfl rfl rfl ?_ | refine TL.minI rfl rfl rfl rfl ?_ | refine TL.nilCheckF rfl rfl rfl ?_ | refine TL.nil ?_ | refine T.seqK fun K hK => ?_ | (refine T.regionO fun ops => ?_) | refine T.condT rfl ?_ | refine T.condF rfl ?_ | refine T.block ?_ | refine T.skip ?_ | refine T.ret ?_ | refine T.exit ?_ | (refine hK _ _ ?_; clear hK K) | clear hK K | clear ops)
        refine TL.buildSlice (vs := [.bool (g (Tr.node l r).nd)]) rfl rfl rfl rfl rfl (by simp [Value.oneCell']) rfl fun b15 w13 hal13 => ?_
        have hrd13 := hal13.rd (len := 1) rfl (by simp [maxLen])
        have hx13 : Ext w12 w13 := hal13.below
        have hlt4 := h4c.lt
        have hlt6 := h6c'.lt
        refine TL.push rfl rfl rfl rfl (hW12.keep hx13) hrd13 (by simp [Value.oneCell']) rfl (by omega) (by simp [maxLen]; omega) fun wv2 w14 hW14 hg14 ho14 => ?_
        have hs1213 := hx13.size
        have oW : ∀ {x : Nat}, (∀ k, wv.ownBlock = some k → k ≠ x) → some x ≠ wv.ownBlock := fun {x} hx hh => hx x hh.symm rfl
        have h6d := (h6c'.keepA hx13).keepG hg14 (oW fun k hk => (hD2 k hk).2)
        have h4d := (h4c.keepA hx13).keepG hg14 (oW fun k hk => (hD2 k hk).1)
        have hT14 := (hT12.keep hx13).keepG turnE_flat hg14 (by
          cases hh : tv2.ownBlock with
          | none => exact .inl rfl
          | some k => exact .inr (fun he => hwt k hh he.symm)) (fun k hk => ((hW12.keep hx13).blk k hk).1)
        repeat (first | refine TL.move rfl rfl rfl ?_ | refine TL.assign rfl rfl rfl ?_ | refine TL.nilCheck rfl rfl rfl ?_ | refine TL.fieldAddr rfl rfl rfl ?_ | refine TL.convI rfl rfl rfl ?_ | refine TL.cmpI rfl rfl rfl rfl rfl ?_ | refine TL.arith rfl rfl rfl rfl rfl ?_ | refine TL.lenS rfl rfl rfl ?_ | refine TL.lenStr rfl rfl rfl ?_ | refine TL.not rfl rfl rfl ?_ | refine TL.skipG rfl rfl ?_ | refine TL.pickT rfl rfl rfl rfl ?_ | refine TL.pickF rfl rfl rfl rfl ?_ | refine TL.extract rfl rfl rfl rfl ?_ | refine TL.maxI rfl rfl rfl rfl ?_ | refine TL.minI rfl rfl rfl rfl ?_ | refine TL.nilCheckF rfl rfl rfl ?_ | refine TL.nil ?_ | refine T.seqK fun K hK => ?_ | (refine T.regionO fun ops => ?_) | refine T.condT rfl ?_ | refine T.condF rfl ?_ | refine T.block ?_ | refine T.skip ?_ | refine T.ret ?_ | refine T.exit ?_ | (refine hK _ _ ?_; clear hK K) | clear hK K | clear ops)
        have hsn : t0.at_ (ws ++ [g (Tr.node l r).nd]) = some (if g (Tr.node l r).nd then r else l) := Tr.at_snoc ws _ t0 l r hat'
        refine ⟨m - 1, by omega, ws ++ [g (Tr.node l r).nd], ts ++ [tn], wv2, tv2, some (if g (Tr.node l r).nd then r else l), ?_, h4d, h6d, hT14, by simpa using hW14, fun k hk => ⟨hx4 k hk, hx6 k hk, fun h2 => ?_⟩, fun k hk => ?_, hsn, ?_, (fun h => by cases h), ?_, ?_, by simp [hlen]⟩
        · repeat (first | exact Less.nil _ | refine Less.cons rfl ?_)
        · rcases ho14 k h2 with hh | hh
          · exact hwt k hk hh
          · have := (hT12.blk k hk).2; omega
        · rcases ho14 k hk with hh | hh
          · exact hD2 k hh
          · exact ⟨by omega, by omega⟩
        · rintro t' ht'
          have ht2 : t' = (if g (Tr.node l r).nd then r else l) := (Option.some.inj ht').symm
          obtain ⟨e1, e2, e3⟩ := hdn _ rfl
          have e : (if g (Tr.node l r).nd then downT g r else downT g l) = downT g t' := by rw [ht2]; split <;> rfl
          simp only [downT, e] at e1 e2 e3
          refine ⟨e1, e2, ?_⟩
          rw [e3, List.append_assoc, ← htn, ← hoth]
          rfl
        · have : (if g (Tr.node l r).nd then r else l).sz < l.sz + r.sz := by split <;> omega
          simp only [szO, List.length_append, List.length_cons, List.length_nil]
          omega
        · have : (if g (Tr.node l r).nd then r else l).sz < l.sz + r.sz := by split <;> omega
          simp only [szO]
          omega
      refine T.cond rfl (fun hc => ?_) (fun hc => ?_)
      · refine T.regionO fun ops => ?_
        refine TL.fieldAddr rfl rfl rfl ?_
        refine TL.ev rfl rfl (Ev.loadRA (xs := (Tr.node l r).nd.L.map vb) rfl h89 (by simp [ncs]; exact List.take_left' (by simp [hok.L])) (by simp [hok.L])) ?_
        refine TL.storeRA (A := []) (C := []) (old := (Tr.node l r).nd.R.map vb) (xs := (Tr.node l r).nd.L.map vb) rfl rfl rfl (by simpa using h11) rfl (by simp [Value.cells]) (by simp [hok.L, hok.R]) (by simp [hok.L]) (vb_all _) fun w10 hg10 h11' hs10 => ?_
        refine TL.nil (hrest _ w10 (by repeat (first | exact Less.nil _ | refine Less.cons rfl ?_)) hg10 (by rw [if_pos hc]; simpa using h11'))
      · refine T.skip ?_
        exact hrest _ w9 (by repeat (first | exact Less.nil _ | refine Less.cons rfl ?_)) (grown_refl _ _) (by rw [if_neg (by simp [hc])]; exact h11)
end Go.Proofs
