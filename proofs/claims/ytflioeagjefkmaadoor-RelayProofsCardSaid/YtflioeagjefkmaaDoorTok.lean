/- Tokens as they lie in memory; what multi.Encode comes to. Conditions: as each theorem says. -/
import Derived.Test.YtflioeagjefkmaaDoorRly
import Derived.Test.YtflioeagjefkmaaDoorFwK
set_option linter.all false
namespace Go.Proofs
open Go.Fw Go.RowKit
attribute [local irreducible] TL T TS Ev Ret
/-- a token -/
structure Tk where
  kind : UInt8
  hash : List UInt8
  key : List UInt8
  val : List UInt8
  h : Int
  s : Nat
def tkc (u v : Value) (t : Tk) : List Value := vb t.kind :: (t.hash.map vb ++ [u, v, .int .i64 t.h, .int .u64 t.s])
structure Tk.ok (t : Tk) : Prop where
  hash : t.hash.length = 32
  lo : -9223372036854775808 ≤ t.h
  hi : t.h < 9223372036854775808
  s : t.s < 2 ^ 64
theorem tkc_len {u v : Value} {t : Tk} (h : t.hash.length = 32) : (tkc u v t).length = 37 := by simp [tkc, h]
theorem tkc_one {u v : Value} {t : Tk} (hu : u.oneCell' = true) (hv : v.oneCell' = true) : ∀ x ∈ tkc u v t, x.oneCell' = true := by
  intro x hx
  simp only [tkc, List.mem_cons, List.mem_append, List.not_mem_nil, or_false] at hx
  rcases hx with rfl | hx | rfl | rfl | rfl | rfl
  · rfl
  · exact vb_all _ x hx
  · exact hu
  · exact hv
  · rfl
  · rfl
theorem tkc33 {u v : Value} {t : Tk} (h : t.hash.length = 32) : (tkc u v t)[0 + 33]? = some u := by simp [tkc, h]
theorem tkc34 {u v : Value} {t : Tk} (h : t.hash.length = 32) : (tkc u v t)[0 + 34]? = some v := by simp [tkc, h]
theorem tkc35 {u v : Value} {t : Tk} (h : t.hash.length = 32) : (tkc u v t)[0 + 35]? = some (.int .i64 t.h) := by simp [tkc, h]
theorem tkc36 {u v : Value} {t : Tk} (h : t.hash.length = 32) : (tkc u v t)[0 + 36]? = some (.int .u64 t.s) := by simp [tkc, h]
theorem By.one' {F : Nat → Prop} {w : World} {v : Value} {l : List UInt8} (h : By F w v l) : v.oneCell' = true := by obtain ⟨a, c, hv, _⟩ := h; rw [hv]; rfl
def tokE : Elm Tk where
  sz := 37
  rel F w xs t := ∃ u v, xs = tkc u v t ∧ By F w u t.key ∧ By F w v t.val ∧ t.ok
  keep := fun ⟨u, v, h1, h2, h3, h4⟩ hs => ⟨u, v, h1, h2.keep hs, h3.keep hs, h4⟩
  lt := fun ⟨u, v, h1, h2, h3, h4⟩ => ⟨u, v, h1, h2.ltSize, h3.ltSize, h4⟩
  sub := fun ⟨u, v, h1, h2, h3, h4⟩ hs => ⟨u, v, h1, h2.sub hs, h3.sub hs, h4⟩
  len := fun ⟨u, v, h1, h2, h3, h4⟩ => by rw [h1, tkc_len h4.hash]
  one := fun ⟨u, v, h1, h2, h3, h4⟩ x hx => by rw [h1] at hx; exact tkc_one (By.one' h2) (By.one' h3) x hx
def tk0 : Tk := ⟨0, z32, [], [], 0, 0⟩
/-- a token's bytes, and the error's number -/
def encK (t : Tk) : List UInt8 × Int :=
  let b := putB [] 1 (numB t.kind.toNat)
  if t.kind.toNat = 1 then (putB b 2 t.hash, 0) else if t.kind.toNat = 2 then (putB (putB b 3 t.key) 4 t.val, 0) else if t.kind.toNat = 3 then
    (if t.h < 1 ∨ 64 < t.h then ([], 12) else (putB (putB b 5 (numB t.h.toNat)) 6 (numB t.s), 0)) else ([], 61)
def errK : List Tk → Int
  | [] => 0
  | t :: ts => if (encK t).2 = 0 then errK ts else (encK t).2
def encM (ts : List Tk) : List UInt8 × Int :=
  if 2048 < ts.length then ([], 3) else if errK ts = 0 then (if 65536 < (packB (ts.map fun t => (encK t).1)).length then ([], 3) else (packB (ts.map fun t => (encK t).1), 0)) else ([], errK ts)
theorem encK_len {t : Tk} (h : t.hash.length = 32) (hk : t.key.length ≤ 1000) (hv : t.val.length ≤ 1000) : (encK t).1.length ≤ 2100 := by
  have h1 := putB_len [] 1 (numB t.kind.toNat)
  have h2 := numB_len t.kind.toNat
  simp only [List.length_nil] at h1
  unfold encK
  simp only
  split
  · have := putB_len (putB [] 1 (numB t.kind.toNat)) 2 t.hash; simp only; omega
  · split
    · have a := putB_len (putB [] 1 (numB t.kind.toNat)) 3 t.key
      have b := putB_len (putB (putB [] 1 (numB t.kind.toNat)) 3 t.key) 4 t.val
      simp only; omega
    · split
      · split
        · simp
        · have a := putB_len (putB [] 1 (numB t.kind.toNat)) 5 (numB t.h.toNat)
          have b := putB_len (putB (putB [] 1 (numB t.kind.toNat)) 5 (numB t.h.toNat)) 6 (numB t.s)
          have c := numB_len t.h.toNat
          have d := numB_len t.s
          simp only; omega
      · simp
theorem packK_len : ∀ ts : List Tk, (∀ t ∈ ts, t.hash.length = 32 ∧ t.key.length ≤ 1000 ∧ t.val.length ≤ 1000) → (packB (ts.map fun t => (encK t).1)).length ≤ ts.length * 2200 := by
  intro ts hts
  induction ts with
  | nil => simp [packB]
  | cons t ts ih =>
    obtain ⟨a, b, c⟩ := hts t (by simp)
    have h1 := encK_len a b c
    have h2 := ih fun t ht => hts t (by simp [ht])
    simp only [List.map_cons, packB, List.length_cons, List.length_append]; omega

set_option maxRecDepth 20000 in
set_option maxHeartbeats 4000000 in
theorem MEncode_ret (v : Value) (ts : List Tk) (w : World) (hl : Lsr tokE Any w v ts) (hn : ts.length ≤ 2 ^ 40) (hkv : ∀ t ∈ ts, t.key.length ≤ 1000 ∧ t.val.length ≤ 1000) :
    Ret Tryd.prog 15 #[v] w fun r w' => Ext w w' ∧ ∃ q, r = .tuple #[q, .int .i64 (encM ts).2] ∧ B0 w' q (encM ts).1 := by
  obtain ⟨va, vc, rfl, _⟩ := hl.shape
  refine Ret.of_T Tryd.func15 rfl Tryd.ntmps15 Tryd.results15 rfl ?_
  repeat (first | refine TL.move rfl rfl rfl ?_ | refine TL.assign rfl rfl rfl ?_ | refine TL.nilCheck rfl rfl rfl ?_ | refine TL.fieldAddr rfl rfl rfl ?_ | refine TL.convI rfl rfl rfl ?_ | refine TL.cmpI rfl rfl rfl rfl rfl ?_ | refine TL.arith rfl rfl rfl rfl rfl ?_ | refine TL.lenS rfl rfl rfl ?_ | refine TL.lenStr rfl rfl rfl ?_ | refine TL.not rfl rfl rfl ?_ | refine TL.skipG rfl rfl ?_ | refine TL.pickT rfl rfl rfl rfl ?_ | refine TL.pickF rfl rfl rfl rfl ?_ | refine TL.extract rfl rfl rfl rfl ?_ | refine TL.maxI rfl rfl rfl rfl ?_ | refine TL.minI rfl rfl rfl rfl ?_ | refine TL.nilCheckF rfl rfl rfl ?_ | refine TL.nil ?_ | refine T.seqK fun K hK => ?_ | (refine T.regionO fun ops => ?_) | refine T.condT rfl ?_ | refine T.condF rfl ?_ | refine T.block ?_ | refine T.skip ?_ | refine T.ret ?_ | refine T.exit ?_ | (refine hK _ _ ?_; clear hK K) | clear hK K | clear ops)
  refine T.cond rfl (fun hc => ?_) (fun hc => ?_)
  · have hc' : 2048 < ts.length := by have := of_decide_eq_true hc; omega
    repeat (first | refine TL.move rfl rfl rfl ?_ | refine TL.assign rfl rfl rfl ?_ | refine TL.nilCheck rfl rfl rfl ?_ | refine TL.fieldAddr rfl rfl rfl ?_ | refine TL.convI rfl rfl rfl ?_ | refine TL.cmpI rfl rfl rfl rfl rfl ?_ | refine TL.arith rfl rfl rfl rfl rfl ?_ | refine TL.lenS rfl rfl rfl ?_ | refine TL.lenStr rfl rfl rfl ?_ | refine TL.not rfl rfl rfl ?_ | refine TL.skipG rfl rfl ?_ | refine TL.pickT rfl rfl rfl rfl ?_ | refine TL.pickF rfl rfl rfl rfl ?_ | refine TL.extract rfl rfl rfl rfl ?_ | refine TL.maxI rfl rfl rfl rfl ?_ | refine TL.minI rfl rfl rfl rfl ?_ | refine TL.nilCheckF rfl rfl rfl ?_ | refine TL.nil ?_ | refine T.seqK fun K hK => ?_ | (refine T.regionO fun ops => ?_) | refine T.condT rfl ?_ | refine T.condF rfl ?_ | refine T.block ?_ | refine T.skip ?_ | refine T.ret ?_ | refine T.exit ?_ | (refine hK _ _ ?_; clear hK K) | clear hK K | clear ops)
    exact ⟨_, rfl, Ext.refl _, _, by rw [encM, if_pos hc'], by rw [encM, if_pos hc']; exact By.nil0 _⟩
  have hc' : ¬ 2048 < ts.length := by have := of_decide_eq_false hc; omega
  repeat (first | refine TL.move rfl rfl rfl ?_ | refine TL.assign rfl rfl rfl ?_ | refine TL.nilCheck rfl rfl rfl ?_ | refine TL.fieldAddr rfl rfl rfl ?_ | refine TL.convI rfl rfl rfl ?_ | refine TL.cmpI rfl rfl rfl rfl rfl ?_ | refine TL.arith rfl rfl rfl rfl rfl ?_ | refine TL.lenS rfl rfl rfl ?_ | refine TL.lenStr rfl rfl rfl ?_ | refine TL.not rfl rfl rfl ?_ | refine TL.skipG rfl rfl ?_ | refine TL.pickT rfl rfl rfl rfl ?_ | refine TL.pickF rfl rfl rfl rfl ?_ | refine TL.extract rfl rfl rfl rfl ?_ | refine TL.maxI rfl rfl rfl rfl ?_ | refine TL.minI rfl rfl rfl rfl ?_ | refine TL.nilCheckF rfl rfl rfl ?_ | refine TL.nil ?_ | refine T.seqK fun K hK => ?_ | (refine T.regionO fun ops => ?_) | refine T.condT rfl ?_ | refine T.condF rfl ?_ | refine T.block ?_ | refine T.skip ?_ | refine T.ret ?_ | refine T.exit ?_ | (refine hK _ _ ?_; clear hK K) | clear hK K | clear ops)
  refine T.loop (fun m L w' => ∃ (k : Nat) (lv : Value), Less [(2, nils), (3, .int .i64 0), (4, lv), (14, .slice va ts.length vc), (15, .int .i64 ts.length), (16, .int .i64 k)] L ∧
      Lst bytesE w.heap.size w w' 23 lv ((ts.take k).map fun t => (encK t).1) ∧ errK (ts.drop k) = errK ts ∧ k + m = ts.length) ts.length
    ⟨0, nils, (by repeat (first | exact Less.nil _ | refine Less.cons rfl ?_)), Lst.nil _ _ _ (Below.refl _ _) (Nat.le_refl _) _, rfl, by omega⟩ ?_
  rintro m L w2 ⟨k, lv, hL, hlv, herr, hkm⟩
  refine T.sub hL ?_
  have hw2 : Ext w w2 := hlv.below
  repeat (first | refine TL.move rfl rfl rfl ?_ | refine TL.assign rfl rfl rfl ?_ | refine TL.nilCheck rfl rfl rfl ?_ | refine TL.fieldAddr rfl rfl rfl ?_ | refine TL.convI rfl rfl rfl ?_ | refine TL.cmpI rfl rfl rfl rfl rfl ?_ | refine TL.arith rfl rfl rfl rfl rfl ?_ | refine TL.lenS rfl rfl rfl ?_ | refine TL.lenStr rfl rfl rfl ?_ | refine TL.not rfl rfl rfl ?_ | refine TL.skipG rfl rfl ?_ | refine TL.pickT rfl rfl rfl rfl ?_ | refine TL.pickF rfl rfl rfl rfl ?_ | refine TL.extract rfl rfl rfl rfl ?_ | refine TL.maxI rfl rfl rfl rfl ?_ | refine TL.minI rfl rfl rfl rfl ?_ | refine TL.nilCheckF rfl rfl rfl ?_ | refine TL.nil ?_ | refine T.seqK fun K hK => ?_ | (refine T.regionO fun ops => ?_) | refine T.condT rfl ?_ | refine T.condF rfl ?_ | refine T.block ?_ | refine T.skip ?_ | refine T.ret ?_ | refine T.exit ?_ | (refine hK _ _ ?_; clear hK K) | clear hK K | clear ops)
  refine T.cond rfl (fun hd => ?_) (fun hd => ?_)
  · have hk : k < ts.length := by simpa using hd
    obtain ⟨t, htk⟩ : ∃ t, ts[k]? = some t := ⟨_, List.getElem?_eq_getElem hk⟩
    obtain ⟨hkl, hvl⟩ := hkv t (List.mem_of_getElem? htk)
    obtain ⟨g1, g2⟩ := List.getElem?_eq_some_iff.1 htk
    have htake : ts.take (k + 1) = ts.take k ++ [t] := by rw [List.take_succ_eq_append_getElem g1, g2]
    rw [List.drop_eq_getElem_cons g1, g2, errK] at herr
    have hbad : ∀ e : Int, (encK t).2 = e → e ≠ 0 → encM ts = ([], e) := by
      intro e he hne
      rw [he, if_neg hne] at herr
      rw [encM, if_neg hc', if_neg (by rw [← herr]; exact hne), ← herr]
    have hkt := t.kind.toNat_lt
    repeat (first | refine TL.move rfl rfl rfl ?_ | refine TL.assign rfl rfl rfl ?_ | refine TL.nilCheck rfl rfl rfl ?_ | refine TL.fieldAddr rfl rfl rfl ?_ | refine TL.convI rfl rfl rfl ?_ | refine TL.cmpI rfl rfl rfl rfl rfl ?_ | refine TL.arith rfl rfl rfl rfl rfl ?_ | refine TL.lenS rfl rfl rfl ?_ | refine TL.lenStr rfl rfl rfl ?_ | refine TL.not rfl rfl rfl ?_ | refine TL.skipG rfl rfl ?_ | refine TL.pickT rfl rfl rfl rfl ?_ | refine TL.pickF rfl rfl rfl rfl ?_ | refine TL.extract rfl rfl rfl rfl ?_ | refine TL.maxI rfl rfl rfl rfl ?_ | refine TL.minI rfl rfl rfl rfl ?_ | refine TL.nilCheckF rfl rfl rfl ?_ | refine TL.nil ?_ | refine T.seqK fun K hK => ?_ | (refine T.regionO fun ops => ?_) | refine T.condT rfl ?_ | refine T.condF rfl ?_ | refine T.block ?_ | refine T.skip ?_ | refine T.ret ?_ | refine T.exit ?_ | (refine hK _ _ ?_; clear hK K) | clear hK K | clear ops)
    refine TL.elemE (E := tokE) rfl rfl (fun _ => rfl) rfl rfl rfl rfl (hl.ext hw2) rfl htk rfl fun pp us hus => ?_
    obtain ⟨ku, vu, rfl, hku, hvu, hok⟩ := hus
    have htl := tkc_len (u := ku) (v := vu) hok.hash
    refine TL.alloc rfl rfl fun b6 w3 hal => ?_
    have hz : Row w3 b6 (tkc nils nils tk0) 58 (0, 0) := hal.at_
    refine TL.storeRA (A := []) (C := []) (old := tkc nils nils tk0) (xs := tkc ku vu t) rfl rfl rfl (by simpa using hz) rfl (by simp [Value.cells]) (by rw [htl]; rfl) htl (tkc_one (By.one' hku) (By.one' hvu)) fun w4 hg4 h6 hs4 => ?_
    simp only [List.nil_append, List.append_nil] at h6
    have hw24 : Ext w2 w4 := Below.trans hal.below (below_grown hg4 (by rw [hal.num]; exact Nat.le_refl _) hal.below.size)
    have hw4 : Ext w w4 := hw2.trans hw24
    clear hal hz hg4 hs4
    repeat (first | refine TL.move rfl rfl rfl ?_ | refine TL.assign rfl rfl rfl ?_ | refine TL.nilCheck rfl rfl rfl ?_ | refine TL.fieldAddr rfl rfl rfl ?_ | refine TL.convI rfl rfl rfl ?_ | refine TL.cmpI rfl rfl rfl rfl rfl ?_ | refine TL.arith rfl rfl rfl rfl rfl ?_ | refine TL.lenS rfl rfl rfl ?_ | refine TL.lenStr rfl rfl rfl ?_ | refine TL.not rfl rfl rfl ?_ | refine TL.skipG rfl rfl ?_ | refine TL.pickT rfl rfl rfl rfl ?_ | refine TL.pickF rfl rfl rfl rfl ?_ | refine TL.extract rfl rfl rfl rfl ?_ | refine TL.maxI rfl rfl rfl rfl ?_ | refine TL.minI rfl rfl rfl rfl ?_ | refine TL.nilCheckF rfl rfl rfl ?_ | refine TL.nil ?_ | refine T.seqK fun K hK => ?_ | refine T.region ?_ | refine T.condT rfl ?_ | refine T.condF rfl ?_ | refine T.block ?_ | refine T.skip ?_ | refine T.ret ?_ | refine T.exit ?_ | (refine hK _ _ ?_; clear hK K) | clear hK K)
    refine TL.loadR (v := .int .u8 t.kind.toNat) rfl rfl rfl h6 rfl ?_
    refine TL.convI rfl rfl rfl ?_
    refine TL.norm (v' := .int .u64 ((t.kind.toNat : Nat) : Int)) (by rw [wr_u64 (by omega) (by omega)]) ?_
    refine TL.call rfl rfl rfl (Num_ret t.kind.toNat w4) ?_
    rintro n1 w5 hn1
    have l1 := putB_len [] 1 (numB t.kind.toNat)
    have l2 := numB_len t.kind.toNat
    simp only [List.length_nil] at l1
    refine TL.call rfl rfl rfl (Put_ok 1 nils n1 [] (numB t.kind.toNat) w5 (By.nil0 _) hn1.by_ (by simp) (by omega)) ?_
    rintro _ w6 ⟨p1, rfl, hp1⟩
    have e46 : Ext w4 w6 := Ext.trans hn1.below hp1.below
    have h66 := h6.keepA e46
    have hB1 : B0 w6 p1 (putB [] 1 (numB t.kind.toNat)) := By.any hp1.by_
    repeat (first | refine TL.move rfl rfl rfl ?_ | refine TL.assign rfl rfl rfl ?_ | refine TL.nilCheck rfl rfl rfl ?_ | refine TL.fieldAddr rfl rfl rfl ?_ | refine TL.convI rfl rfl rfl ?_ | refine TL.cmpI rfl rfl rfl rfl rfl ?_ | refine TL.arith rfl rfl rfl rfl rfl ?_ | refine TL.lenS rfl rfl rfl ?_ | refine TL.lenStr rfl rfl rfl ?_ | refine TL.not rfl rfl rfl ?_ | refine TL.skipG rfl rfl ?_ | refine TL.pickT rfl rfl rfl rfl ?_ | refine TL.pickF rfl rfl rfl rfl ?_ | refine TL.extract rfl rfl rfl rfl ?_ | refine TL.maxI rfl rfl rfl rfl ?_ | refine TL.minI rfl rfl rfl rfl ?_ | refine TL.nilCheckF rfl rfl rfl ?_ | refine TL.nil ?_ | refine T.seqK fun K hK => ?_ | refine T.region ?_ | refine T.condT rfl ?_ | refine T.condF rfl ?_ | refine T.block ?_ | refine T.skip ?_ | refine T.ret ?_ | refine T.exit ?_ | (refine hK _ _ ?_; clear hK K) | clear hK K)
    refine TL.loadR (v := .int .u8 t.kind.toNat) rfl rfl rfl h66 rfl ?_
    repeat (first | refine TL.move rfl rfl rfl ?_ | refine TL.assign rfl rfl rfl ?_ | refine TL.nilCheck rfl rfl rfl ?_ | refine TL.fieldAddr rfl rfl rfl ?_ | refine TL.convI rfl rfl rfl ?_ | refine TL.cmpI rfl rfl rfl rfl rfl ?_ | refine TL.arith rfl rfl rfl rfl rfl ?_ | refine TL.lenS rfl rfl rfl ?_ | refine TL.lenStr rfl rfl rfl ?_ | refine TL.not rfl rfl rfl ?_ | refine TL.skipG rfl rfl ?_ | refine TL.pickT rfl rfl rfl rfl ?_ | refine TL.pickF rfl rfl rfl rfl ?_ | refine TL.extract rfl rfl rfl rfl ?_ | refine TL.maxI rfl rfl rfl rfl ?_ | refine TL.minI rfl rfl rfl rfl ?_ | refine TL.nilCheckF rfl rfl rfl ?_ | refine TL.nil ?_ | refine T.seqK fun K hK => ?_ | refine T.region ?_ | refine T.condT rfl ?_ | refine T.condF rfl ?_ | refine T.block ?_ | refine T.skip ?_ | refine T.ret ?_ | refine T.exit ?_ | (refine hK _ _ ?_; clear hK K) | clear hK K)
    have hrest : ∀ (bv : Value) (w9 : World) (L' : Sl), Less [(2, nils), (3, .int .i64 0), (4, lv), (7, bv), (8, .int .i64 0), (14, .slice va ts.length vc), (15, .int .i64 ts.length), (16, .int .i64 k)] L' → Ext w6 w9 → By (w2.heap.size ≤ ·) w9 bv (encK t).1 → (encK t).2 = 0 → K L' w9 := by
      intro bv w9 L' hL' e69 hbv h0
      refine hK _ _ (T.sub hL' ?_)
      clear hK K
      rw [if_pos h0] at herr
      obtain ⟨ba, bc, rfl, _⟩ := hbv.shape
      repeat (first | refine TL.move rfl rfl rfl ?_ | refine TL.assign rfl rfl rfl ?_ | refine TL.nilCheck rfl rfl rfl ?_ | refine TL.fieldAddr rfl rfl rfl ?_ | refine TL.convI rfl rfl rfl ?_ | refine TL.cmpI rfl rfl rfl rfl rfl ?_ | refine TL.arith rfl rfl rfl rfl rfl ?_ | refine TL.lenS rfl rfl rfl ?_ | refine TL.lenStr rfl rfl rfl ?_ | refine TL.not rfl rfl rfl ?_ | refine TL.skipG rfl rfl ?_ | refine TL.pickT rfl rfl rfl rfl ?_ | refine TL.pickF rfl rfl rfl rfl ?_ | refine TL.extract rfl rfl rfl rfl ?_ | refine TL.maxI rfl rfl rfl rfl ?_ | refine TL.minI rfl rfl rfl rfl ?_ | refine TL.nilCheckF rfl rfl rfl ?_ | refine TL.nil ?_ | refine T.seqK fun K hK => ?_ | refine T.region ?_ | refine T.condT rfl ?_ | refine T.condF rfl ?_ | refine T.block ?_ | refine T.skip ?_ | refine T.ret ?_ | refine T.exit ?_ | (refine hK _ _ ?_; clear hK K) | clear hK K)
      refine TL.buildSlice rfl rfl rfl rfl rfl (by simp [Value.oneCell']) rfl fun b65 w11 hal => ?_
      have hr65 : Rd (· = b65) w11 1 (.slice (some ⟨b65, 0, none⟩) 1 1) 1 _ := hal.rd rfl (by simp [maxLen])
      have e211 : Ext w2 w11 := hw24.trans (e46.trans (e69.trans hal.below))
      have hl11 := hlv.keep e211
      have hel : bytesE.rel (fun k => w2.heap.size ≤ k) w11 [.slice ba (encK t).1.length bc] (encK t).1 := ⟨_, rfl, By.ext hbv hal.below⟩
      refine TL.pushE (E := bytesE) rfl rfl rfl rfl rfl hl11 hr65 hel (fun j hj hh => by have := (hlv.blk j hh).2; omega) rfl (by simp; omega) (by simp [maxLen]; omega) fun v' w12 hl12 _ _ => ?_
      repeat (first | refine TL.move rfl rfl rfl ?_ | refine TL.assign rfl rfl rfl ?_ | refine TL.nilCheck rfl rfl rfl ?_ | refine TL.fieldAddr rfl rfl rfl ?_ | refine TL.convI rfl rfl rfl ?_ | refine TL.cmpI rfl rfl rfl rfl rfl ?_ | refine TL.arith rfl rfl rfl rfl rfl ?_ | refine TL.lenS rfl rfl rfl ?_ | refine TL.lenStr rfl rfl rfl ?_ | refine TL.not rfl rfl rfl ?_ | refine TL.skipG rfl rfl ?_ | refine TL.pickT rfl rfl rfl rfl ?_ | refine TL.pickF rfl rfl rfl rfl ?_ | refine TL.extract rfl rfl rfl rfl ?_ | refine TL.maxI rfl rfl rfl rfl ?_ | refine TL.minI rfl rfl rfl rfl ?_ | refine TL.nilCheckF rfl rfl rfl ?_ | refine TL.nil ?_ | refine T.seqK fun K hK => ?_ | (refine T.regionO fun ops => ?_) | refine T.condT rfl ?_ | refine T.condF rfl ?_ | refine T.block ?_ | refine T.skip ?_ | refine T.ret ?_ | refine T.exit ?_ | (refine hK _ _ ?_; clear hK K) | clear hK K | clear ops)
      refine ⟨m - 1, by omega, k + 1, v', ?_, ?_, herr, by omega⟩
      · repeat (first | exact Less.nil _ | refine Less.cons rfl ?_)
        refine Less.cons' rfl (by rw [wr_succ (by omega)]) ?_
        repeat (first | exact Less.nil _ | refine Less.cons rfl ?_)
      · rw [htake, List.map_append]; exact hl12
    clear hK
    have hsz26 : w2.heap.size ≤ w6.heap.size := (hw24.trans e46).size
    have hob : B0 w6 (.slice (some ⟨b6, 0 + 1, none⟩) 32 32) t.hash := by
      have h69' : Row w6 b6 ([vb t.kind] ++ t.hash.map vb ++ [ku, vu, .int .i64 t.h, .int .u64 t.s]) 58 (0, 0) := by simpa [tkc] using h66
      have := Row.by_ h69' (by rw [hok.hash]; simp [maxLen])
      rw [hok.hash] at this; exact this
    refine T.cond rfl (fun hq => ?_) (fun hq => ?_)
    · have hq' : t.kind.toNat = 1 := by have : (t.kind.toNat : Int) = 1 := by simpa using hq
                                        omega
      repeat (first | refine TL.move rfl rfl rfl ?_ | refine TL.assign rfl rfl rfl ?_ | refine TL.nilCheck rfl rfl rfl ?_ | refine TL.fieldAddr rfl rfl rfl ?_ | refine TL.convI rfl rfl rfl ?_ | refine TL.cmpI rfl rfl rfl rfl rfl ?_ | refine TL.arith rfl rfl rfl rfl rfl ?_ | refine TL.lenS rfl rfl rfl ?_ | refine TL.lenStr rfl rfl rfl ?_ | refine TL.not rfl rfl rfl ?_ | refine TL.skipG rfl rfl ?_ | refine TL.pickT rfl rfl rfl rfl ?_ | refine TL.pickF rfl rfl rfl rfl ?_ | refine TL.extract rfl rfl rfl rfl ?_ | refine TL.maxI rfl rfl rfl rfl ?_ | refine TL.minI rfl rfl rfl rfl ?_ | refine TL.nilCheckF rfl rfl rfl ?_ | refine TL.nil ?_ | refine T.seqK fun K hK => ?_ | refine T.region ?_ | refine T.condT rfl ?_ | refine T.condF rfl ?_ | refine T.block ?_ | refine T.skip ?_ | refine T.ret ?_ | refine T.exit ?_ | (refine hK _ _ ?_; clear hK K) | clear hK K)
      refine TL.ev rfl rfl (Ev.sliceArr rfl) ?_
      refine TL.call rfl rfl rfl (Put_ok 2 p1 _ _ t.hash w6 hB1 hob (by omega) (by rw [hok.hash]; omega)) ?_
      rintro _ w7 ⟨p2, rfl, hp2⟩
      repeat (first | refine TL.move rfl rfl rfl ?_ | refine TL.assign rfl rfl rfl ?_ | refine TL.nilCheck rfl rfl rfl ?_ | refine TL.fieldAddr rfl rfl rfl ?_ | refine TL.convI rfl rfl rfl ?_ | refine TL.cmpI rfl rfl rfl rfl rfl ?_ | refine TL.arith rfl rfl rfl rfl rfl ?_ | refine TL.lenS rfl rfl rfl ?_ | refine TL.lenStr rfl rfl rfl ?_ | refine TL.not rfl rfl rfl ?_ | refine TL.skipG rfl rfl ?_ | refine TL.pickT rfl rfl rfl rfl ?_ | refine TL.pickF rfl rfl rfl rfl ?_ | refine TL.extract rfl rfl rfl rfl ?_ | refine TL.maxI rfl rfl rfl rfl ?_ | refine TL.minI rfl rfl rfl rfl ?_ | refine TL.nilCheckF rfl rfl rfl ?_ | refine TL.nil ?_ | refine T.seqK fun K hK => ?_ | refine T.region ?_ | refine T.condT rfl ?_ | refine T.condF rfl ?_ | refine T.block ?_ | refine T.skip ?_ | refine T.ret ?_ | refine T.exit ?_ | (refine hK _ _ ?_; clear hK K) | clear hK K)
      refine hrest p2 w7 _ (by repeat (first | exact Less.nil _ | refine Less.cons rfl ?_)) hp2.below ?_ ?_
      · simp only [encK, if_pos hq']; exact hp2.by_.sub fun j hj => Nat.le_trans hsz26 hj
      · simp only [encK, if_pos hq']
    have hq1 : ¬ t.kind.toNat = 1 := by intro h; rw [h] at hq; simp at hq
    repeat (first | refine TL.move rfl rfl rfl ?_ | refine TL.assign rfl rfl rfl ?_ | refine TL.nilCheck rfl rfl rfl ?_ | refine TL.fieldAddr rfl rfl rfl ?_ | refine TL.convI rfl rfl rfl ?_ | refine TL.cmpI rfl rfl rfl rfl rfl ?_ | refine TL.arith rfl rfl rfl rfl rfl ?_ | refine TL.lenS rfl rfl rfl ?_ | refine TL.lenStr rfl rfl rfl ?_ | refine TL.not rfl rfl rfl ?_ | refine TL.skipG rfl rfl ?_ | refine TL.pickT rfl rfl rfl rfl ?_ | refine TL.pickF rfl rfl rfl rfl ?_ | refine TL.extract rfl rfl rfl rfl ?_ | refine TL.maxI rfl rfl rfl rfl ?_ | refine TL.minI rfl rfl rfl rfl ?_ | refine TL.nilCheckF rfl rfl rfl ?_ | refine TL.nil ?_ | refine T.seqK fun K hK => ?_ | refine T.region ?_ | refine T.condT rfl ?_ | refine T.condF rfl ?_ | refine T.block ?_ | refine T.skip ?_ | refine T.ret ?_ | refine T.exit ?_ | (refine hK _ _ ?_; clear hK K) | clear hK K)
    refine T.cond rfl (fun hq => ?_) (fun hq => ?_)
    · have hq' : t.kind.toNat = 2 := by have : (t.kind.toNat : Int) = 2 := by simpa using hq
                                        omega
      repeat (first | refine TL.move rfl rfl rfl ?_ | refine TL.assign rfl rfl rfl ?_ | refine TL.nilCheck rfl rfl rfl ?_ | refine TL.fieldAddr rfl rfl rfl ?_ | refine TL.convI rfl rfl rfl ?_ | refine TL.cmpI rfl rfl rfl rfl rfl ?_ | refine TL.arith rfl rfl rfl rfl rfl ?_ | refine TL.lenS rfl rfl rfl ?_ | refine TL.lenStr rfl rfl rfl ?_ | refine TL.not rfl rfl rfl ?_ | refine TL.skipG rfl rfl ?_ | refine TL.pickT rfl rfl rfl rfl ?_ | refine TL.pickF rfl rfl rfl rfl ?_ | refine TL.extract rfl rfl rfl rfl ?_ | refine TL.maxI rfl rfl rfl rfl ?_ | refine TL.minI rfl rfl rfl rfl ?_ | refine TL.nilCheckF rfl rfl rfl ?_ | refine TL.nil ?_ | refine T.seqK fun K hK => ?_ | refine T.region ?_ | refine T.condT rfl ?_ | refine T.condF rfl ?_ | refine T.block ?_ | refine T.skip ?_ | refine T.ret ?_ | refine T.exit ?_ | (refine hK _ _ ?_; clear hK K) | clear hK K)
      refine TL.loadR rfl rfl rfl h66 (tkc33 hok.hash) ?_
      have hw26 := hw24.trans e46
      have l3 := putB_len (putB [] 1 (numB t.kind.toNat)) 3 t.key
      refine TL.call rfl rfl rfl (Put_ok 3 p1 ku _ t.key w6 hB1 (By.ext hku hw26) (by omega) (by omega)) ?_
      rintro _ w7 ⟨p2, rfl, hp2⟩
      repeat (first | refine TL.move rfl rfl rfl ?_ | refine TL.assign rfl rfl rfl ?_ | refine TL.nilCheck rfl rfl rfl ?_ | refine TL.fieldAddr rfl rfl rfl ?_ | refine TL.convI rfl rfl rfl ?_ | refine TL.cmpI rfl rfl rfl rfl rfl ?_ | refine TL.arith rfl rfl rfl rfl rfl ?_ | refine TL.lenS rfl rfl rfl ?_ | refine TL.lenStr rfl rfl rfl ?_ | refine TL.not rfl rfl rfl ?_ | refine TL.skipG rfl rfl ?_ | refine TL.pickT rfl rfl rfl rfl ?_ | refine TL.pickF rfl rfl rfl rfl ?_ | refine TL.extract rfl rfl rfl rfl ?_ | refine TL.maxI rfl rfl rfl rfl ?_ | refine TL.minI rfl rfl rfl rfl ?_ | refine TL.nilCheckF rfl rfl rfl ?_ | refine TL.nil ?_ | refine T.seqK fun K hK => ?_ | refine T.region ?_ | refine T.condT rfl ?_ | refine T.condF rfl ?_ | refine T.block ?_ | refine T.skip ?_ | refine T.ret ?_ | refine T.exit ?_ | (refine hK _ _ ?_; clear hK K) | clear hK K)
      refine TL.loadR rfl rfl rfl (h66.keepA hp2.below) (tkc34 hok.hash) ?_
      refine TL.call rfl rfl rfl (Put_ok 4 p2 vu _ t.val w7 hp2.by_ (By.ext hvu (hw26.trans hp2.below)) (by omega) (by omega)) ?_
      rintro _ w8 ⟨p3, rfl, hp3⟩
      repeat (first | refine TL.move rfl rfl rfl ?_ | refine TL.assign rfl rfl rfl ?_ | refine TL.nilCheck rfl rfl rfl ?_ | refine TL.fieldAddr rfl rfl rfl ?_ | refine TL.convI rfl rfl rfl ?_ | refine TL.cmpI rfl rfl rfl rfl rfl ?_ | refine TL.arith rfl rfl rfl rfl rfl ?_ | refine TL.lenS rfl rfl rfl ?_ | refine TL.lenStr rfl rfl rfl ?_ | refine TL.not rfl rfl rfl ?_ | refine TL.skipG rfl rfl ?_ | refine TL.pickT rfl rfl rfl rfl ?_ | refine TL.pickF rfl rfl rfl rfl ?_ | refine TL.extract rfl rfl rfl rfl ?_ | refine TL.maxI rfl rfl rfl rfl ?_ | refine TL.minI rfl rfl rfl rfl ?_ | refine TL.nilCheckF rfl rfl rfl ?_ | refine TL.nil ?_ | refine T.seqK fun K hK => ?_ | refine T.region ?_ | refine T.condT rfl ?_ | refine T.condF rfl ?_ | refine T.block ?_ | refine T.skip ?_ | refine T.ret ?_ | refine T.exit ?_ | (refine hK _ _ ?_; clear hK K) | clear hK K)
      refine hrest p3 w8 _ (by repeat (first | exact Less.nil _ | refine Less.cons rfl ?_)) (Ext.trans hp2.below hp3.below) ?_ ?_
      · simp only [encK, if_neg hq1, if_pos hq']; exact hp3.by_.sub fun j hj => Nat.le_trans (Nat.le_trans hsz26 hp2.below.size) hj
      · simp only [encK, if_neg hq1, if_pos hq']
    have hq2 : ¬ t.kind.toNat = 2 := by intro h; rw [h] at hq; simp at hq
    repeat (first | refine TL.move rfl rfl rfl ?_ | refine TL.assign rfl rfl rfl ?_ | refine TL.nilCheck rfl rfl rfl ?_ | refine TL.fieldAddr rfl rfl rfl ?_ | refine TL.convI rfl rfl rfl ?_ | refine TL.cmpI rfl rfl rfl rfl rfl ?_ | refine TL.arith rfl rfl rfl rfl rfl ?_ | refine TL.lenS rfl rfl rfl ?_ | refine TL.lenStr rfl rfl rfl ?_ | refine TL.not rfl rfl rfl ?_ | refine TL.skipG rfl rfl ?_ | refine TL.pickT rfl rfl rfl rfl ?_ | refine TL.pickF rfl rfl rfl rfl ?_ | refine TL.extract rfl rfl rfl rfl ?_ | refine TL.maxI rfl rfl rfl rfl ?_ | refine TL.minI rfl rfl rfl rfl ?_ | refine TL.nilCheckF rfl rfl rfl ?_ | refine TL.nil ?_ | refine T.seqK fun K hK => ?_ | refine T.region ?_ | refine T.condT rfl ?_ | refine T.condF rfl ?_ | refine T.block ?_ | refine T.skip ?_ | refine T.ret ?_ | refine T.exit ?_ | (refine hK _ _ ?_; clear hK K) | clear hK K)
    refine T.cond rfl (fun hq => ?_) (fun hq => ?_)
    · have hq' : t.kind.toNat = 3 := by have : (t.kind.toNat : Int) = 3 := by simpa using hq
                                        omega
      have hlo := hok.lo
      have hhi := hok.hi
      repeat (first | refine TL.move rfl rfl rfl ?_ | refine TL.assign rfl rfl rfl ?_ | refine TL.nilCheck rfl rfl rfl ?_ | refine TL.fieldAddr rfl rfl rfl ?_ | refine TL.convI rfl rfl rfl ?_ | refine TL.cmpI rfl rfl rfl rfl rfl ?_ | refine TL.arith rfl rfl rfl rfl rfl ?_ | refine TL.lenS rfl rfl rfl ?_ | refine TL.lenStr rfl rfl rfl ?_ | refine TL.not rfl rfl rfl ?_ | refine TL.skipG rfl rfl ?_ | refine TL.pickT rfl rfl rfl rfl ?_ | refine TL.pickF rfl rfl rfl rfl ?_ | refine TL.extract rfl rfl rfl rfl ?_ | refine TL.maxI rfl rfl rfl rfl ?_ | refine TL.minI rfl rfl rfl rfl ?_ | refine TL.nilCheckF rfl rfl rfl ?_ | refine TL.nil ?_ | refine T.seqK fun K hK => ?_ | refine T.region ?_ | refine T.condT rfl ?_ | refine T.condF rfl ?_ | refine T.block ?_ | refine T.skip ?_ | refine T.ret ?_ | refine T.exit ?_ | (refine hK _ _ ?_; clear hK K) | clear hK K)
      refine TL.loadR rfl rfl rfl h66 (tkc35 hok.hash) ?_
      by_cases ha : t.h < 1
      · refine TL.cmpI (c := true) rfl rfl rfl rfl (by simp only [Fw.cmpI]; congr 1; simp; omega) ?_
        repeat (first | refine TL.move rfl rfl rfl ?_ | refine TL.assign rfl rfl rfl ?_ | refine TL.nilCheck rfl rfl rfl ?_ | refine TL.fieldAddr rfl rfl rfl ?_ | refine TL.convI rfl rfl rfl ?_ | refine TL.cmpI rfl rfl rfl rfl rfl ?_ | refine TL.arith rfl rfl rfl rfl rfl ?_ | refine TL.lenS rfl rfl rfl ?_ | refine TL.lenStr rfl rfl rfl ?_ | refine TL.not rfl rfl rfl ?_ | refine TL.skipG rfl rfl ?_ | refine TL.pickT rfl rfl rfl rfl ?_ | refine TL.pickF rfl rfl rfl rfl ?_ | refine TL.extract rfl rfl rfl rfl ?_ | refine TL.maxI rfl rfl rfl rfl ?_ | refine TL.minI rfl rfl rfl rfl ?_ | refine TL.nilCheckF rfl rfl rfl ?_ | refine TL.nil ?_ | refine T.seqK fun K hK => ?_ | refine T.region ?_ | refine T.condT rfl ?_ | refine T.condF rfl ?_ | refine T.block ?_ | refine T.skip ?_ | refine T.ret ?_ | refine T.exit ?_ | (refine hK _ _ ?_; clear hK K) | clear hK K)
        have e := hbad 12 (by simp only [encK, if_neg hq1, if_neg hq2, if_pos hq', if_pos (Or.inl ha)]) (by decide)
        exact ⟨_, rfl, hw4.trans e46, _, by rw [e], by rw [e]; exact By.nil0 _⟩
      · refine TL.cmpI (c := false) rfl rfl rfl rfl (by simp only [Fw.cmpI]; congr 1; simp; omega) ?_
        repeat (first | refine TL.move rfl rfl rfl ?_ | refine TL.assign rfl rfl rfl ?_ | refine TL.nilCheck rfl rfl rfl ?_ | refine TL.fieldAddr rfl rfl rfl ?_ | refine TL.convI rfl rfl rfl ?_ | refine TL.cmpI rfl rfl rfl rfl rfl ?_ | refine TL.arith rfl rfl rfl rfl rfl ?_ | refine TL.lenS rfl rfl rfl ?_ | refine TL.lenStr rfl rfl rfl ?_ | refine TL.not rfl rfl rfl ?_ | refine TL.skipG rfl rfl ?_ | refine TL.pickT rfl rfl rfl rfl ?_ | refine TL.pickF rfl rfl rfl rfl ?_ | refine TL.extract rfl rfl rfl rfl ?_ | refine TL.maxI rfl rfl rfl rfl ?_ | refine TL.minI rfl rfl rfl rfl ?_ | refine TL.nilCheckF rfl rfl rfl ?_ | refine TL.nil ?_ | refine T.seqK fun K hK => ?_ | refine T.region ?_ | refine T.condT rfl ?_ | refine T.condF rfl ?_ | refine T.block ?_ | refine T.skip ?_ | refine T.ret ?_ | refine T.exit ?_ | (refine hK _ _ ?_; clear hK K) | clear hK K)
        refine TL.loadR rfl rfl rfl h66 (tkc35 hok.hash) ?_
        by_cases hb : 64 < t.h
        · refine TL.cmpI (c := true) rfl rfl rfl rfl (by simp only [Fw.cmpI]; congr 1; simp; omega) ?_
          repeat (first | refine TL.move rfl rfl rfl ?_ | refine TL.assign rfl rfl rfl ?_ | refine TL.nilCheck rfl rfl rfl ?_ | refine TL.fieldAddr rfl rfl rfl ?_ | refine TL.convI rfl rfl rfl ?_ | refine TL.cmpI rfl rfl rfl rfl rfl ?_ | refine TL.arith rfl rfl rfl rfl rfl ?_ | refine TL.lenS rfl rfl rfl ?_ | refine TL.lenStr rfl rfl rfl ?_ | refine TL.not rfl rfl rfl ?_ | refine TL.skipG rfl rfl ?_ | refine TL.pickT rfl rfl rfl rfl ?_ | refine TL.pickF rfl rfl rfl rfl ?_ | refine TL.extract rfl rfl rfl rfl ?_ | refine TL.maxI rfl rfl rfl rfl ?_ | refine TL.minI rfl rfl rfl rfl ?_ | refine TL.nilCheckF rfl rfl rfl ?_ | refine TL.nil ?_ | refine T.seqK fun K hK => ?_ | refine T.region ?_ | refine T.condT rfl ?_ | refine T.condF rfl ?_ | refine T.block ?_ | refine T.skip ?_ | refine T.ret ?_ | refine T.exit ?_ | (refine hK _ _ ?_; clear hK K) | clear hK K)
          have e := hbad 12 (by simp only [encK, if_neg hq1, if_neg hq2, if_pos hq', if_pos (Or.inr hb)]) (by decide)
          exact ⟨_, rfl, hw4.trans e46, _, by rw [e], by rw [e]; exact By.nil0 _⟩
        · refine TL.cmpI (c := false) rfl rfl rfl rfl (cmpI_gtF (by omega)) ?_
          repeat (first | refine TL.move rfl rfl rfl ?_ | refine TL.assign rfl rfl rfl ?_ | refine TL.nilCheck rfl rfl rfl ?_ | refine TL.fieldAddr rfl rfl rfl ?_ | refine TL.convI rfl rfl rfl ?_ | refine TL.cmpI rfl rfl rfl rfl rfl ?_ | refine TL.arith rfl rfl rfl rfl rfl ?_ | refine TL.lenS rfl rfl rfl ?_ | refine TL.lenStr rfl rfl rfl ?_ | refine TL.not rfl rfl rfl ?_ | refine TL.skipG rfl rfl ?_ | refine TL.pickT rfl rfl rfl rfl ?_ | refine TL.pickF rfl rfl rfl rfl ?_ | refine TL.extract rfl rfl rfl rfl ?_ | refine TL.maxI rfl rfl rfl rfl ?_ | refine TL.minI rfl rfl rfl rfl ?_ | refine TL.nilCheckF rfl rfl rfl ?_ | refine TL.nil ?_ | refine T.seqK fun K hK => ?_ | refine T.region ?_ | refine T.condT rfl ?_ | refine T.condF rfl ?_ | refine T.block ?_ | refine T.skip ?_ | refine T.ret ?_ | refine T.exit ?_ | (refine hK _ _ ?_; clear hK K) | clear hK K)
          have hhn : t.h = ((t.h.toNat : Nat) : Int) := by omega
          have hno : ¬ (t.h < 1 ∨ 64 < t.h) := by omega
          refine TL.loadR rfl rfl rfl h66 (tkc35 hok.hash) ?_
          refine TL.convI rfl rfl rfl ?_
          refine TL.norm (v' := .int .u64 ((t.h.toNat : Nat) : Int)) (by rw [wr_u64 (by omega) (by omega)]; rw [← hhn]) ?_
          refine TL.call rfl rfl rfl (Num_ret t.h.toNat w6) ?_
          rintro n2 w7 hn2
          have l3 := putB_len (putB [] 1 (numB t.kind.toNat)) 5 (numB t.h.toNat)
          have l4 := numB_len t.h.toNat
          have l5 := numB_len t.s
          refine TL.call rfl rfl rfl (Put_ok 5 p1 n2 _ (numB t.h.toNat) w7 (By.ext hB1 hn2.below) hn2.by_ (by omega) (by omega)) ?_
          rintro _ w8 ⟨p2, rfl, hp2⟩
          have e68 : Ext w6 w8 := Ext.trans hn2.below hp2.below
          repeat (first | refine TL.move rfl rfl rfl ?_ | refine TL.assign rfl rfl rfl ?_ | refine TL.nilCheck rfl rfl rfl ?_ | refine TL.fieldAddr rfl rfl rfl ?_ | refine TL.convI rfl rfl rfl ?_ | refine TL.cmpI rfl rfl rfl rfl rfl ?_ | refine TL.arith rfl rfl rfl rfl rfl ?_ | refine TL.lenS rfl rfl rfl ?_ | refine TL.lenStr rfl rfl rfl ?_ | refine TL.not rfl rfl rfl ?_ | refine TL.skipG rfl rfl ?_ | refine TL.pickT rfl rfl rfl rfl ?_ | refine TL.pickF rfl rfl rfl rfl ?_ | refine TL.extract rfl rfl rfl rfl ?_ | refine TL.maxI rfl rfl rfl rfl ?_ | refine TL.minI rfl rfl rfl rfl ?_ | refine TL.nilCheckF rfl rfl rfl ?_ | refine TL.nil ?_ | refine T.seqK fun K hK => ?_ | refine T.region ?_ | refine T.condT rfl ?_ | refine T.condF rfl ?_ | refine T.block ?_ | refine T.skip ?_ | refine T.ret ?_ | refine T.exit ?_ | (refine hK _ _ ?_; clear hK K) | clear hK K)
          refine TL.loadR rfl rfl rfl (h66.keepA e68) (tkc36 hok.hash) ?_
          refine TL.call rfl rfl rfl (Num_ret t.s w8) ?_
          rintro n3 w9 hn3
          refine TL.call rfl rfl rfl (Put_ok 6 p2 n3 _ (numB t.s) w9 (By.ext hp2.by_ hn3.below) hn3.by_ (by omega) (by omega)) ?_
          rintro _ w10 ⟨p3, rfl, hp3⟩
          repeat (first | refine TL.move rfl rfl rfl ?_ | refine TL.assign rfl rfl rfl ?_ | refine TL.nilCheck rfl rfl rfl ?_ | refine TL.fieldAddr rfl rfl rfl ?_ | refine TL.convI rfl rfl rfl ?_ | refine TL.cmpI rfl rfl rfl rfl rfl ?_ | refine TL.arith rfl rfl rfl rfl rfl ?_ | refine TL.lenS rfl rfl rfl ?_ | refine TL.lenStr rfl rfl rfl ?_ | refine TL.not rfl rfl rfl ?_ | refine TL.skipG rfl rfl ?_ | refine TL.pickT rfl rfl rfl rfl ?_ | refine TL.pickF rfl rfl rfl rfl ?_ | refine TL.extract rfl rfl rfl rfl ?_ | refine TL.maxI rfl rfl rfl rfl ?_ | refine TL.minI rfl rfl rfl rfl ?_ | refine TL.nilCheckF rfl rfl rfl ?_ | refine TL.nil ?_ | refine T.seqK fun K hK => ?_ | refine T.region ?_ | refine T.condT rfl ?_ | refine T.condF rfl ?_ | refine T.block ?_ | refine T.skip ?_ | refine T.ret ?_ | refine T.exit ?_ | (refine hK _ _ ?_; clear hK K) | clear hK K)
          have e610 : Ext w6 w10 := e68.trans (Ext.trans hn3.below hp3.below)
          refine hrest p3 w10 _ (by repeat (first | exact Less.nil _ | refine Less.cons rfl ?_)) e610 ?_ ?_
          · simp only [encK, if_neg hq1, if_neg hq2, if_pos hq', if_neg hno]; exact hp3.by_.sub fun j hj => Nat.le_trans (Nat.le_trans hsz26 (Nat.le_trans e68.size hn3.below.size)) hj
          · simp only [encK, if_neg hq1, if_neg hq2, if_pos hq', if_neg hno]
    have hq3 : ¬ t.kind.toNat = 3 := by intro h; rw [h] at hq; simp at hq
    repeat (first | refine TL.move rfl rfl rfl ?_ | refine TL.assign rfl rfl rfl ?_ | refine TL.nilCheck rfl rfl rfl ?_ | refine TL.fieldAddr rfl rfl rfl ?_ | refine TL.convI rfl rfl rfl ?_ | refine TL.cmpI rfl rfl rfl rfl rfl ?_ | refine TL.arith rfl rfl rfl rfl rfl ?_ | refine TL.lenS rfl rfl rfl ?_ | refine TL.lenStr rfl rfl rfl ?_ | refine TL.not rfl rfl rfl ?_ | refine TL.skipG rfl rfl ?_ | refine TL.pickT rfl rfl rfl rfl ?_ | refine TL.pickF rfl rfl rfl rfl ?_ | refine TL.extract rfl rfl rfl rfl ?_ | refine TL.maxI rfl rfl rfl rfl ?_ | refine TL.minI rfl rfl rfl rfl ?_ | refine TL.nilCheckF rfl rfl rfl ?_ | refine TL.nil ?_ | refine T.seqK fun K hK => ?_ | refine T.region ?_ | refine T.condT rfl ?_ | refine T.condF rfl ?_ | refine T.block ?_ | refine T.skip ?_ | refine T.ret ?_ | refine T.exit ?_ | (refine hK _ _ ?_; clear hK K) | clear hK K)
    have e := hbad 61 (by simp only [encK, if_neg hq1, if_neg hq2, if_neg hq3]) (by decide)
    exact ⟨_, rfl, hw4.trans e46, _, by rw [e], by rw [e]; exact By.nil0 _⟩
  · have hk : k = ts.length := by simp at hd; omega
    subst hk
    rw [List.drop_length] at herr
    rw [List.take_length] at hlv
    have hok : ∀ t ∈ ts, t.hash.length = 32 := by
      obtain ⟨xss, _, hl', hr⟩ := hl
      intro t ht
      obtain ⟨i, hi, rfl⟩ := List.getElem_of_mem ht
      obtain ⟨_, _, _, _, _, h⟩ := hr i _ _ (List.getElem?_eq_getElem (by rw [hl']; exact hi)) (List.getElem?_eq_getElem hi)
      exact h.hash
    have hpl := packK_len ts fun t ht => ⟨hok t ht, (hkv t ht).1, (hkv t ht).2⟩
    have herr0 : errK ts = 0 := herr.symm
    repeat (first | refine TL.move rfl rfl rfl ?_ | refine TL.assign rfl rfl rfl ?_ | refine TL.nilCheck rfl rfl rfl ?_ | refine TL.fieldAddr rfl rfl rfl ?_ | refine TL.convI rfl rfl rfl ?_ | refine TL.cmpI rfl rfl rfl rfl rfl ?_ | refine TL.arith rfl rfl rfl rfl rfl ?_ | refine TL.lenS rfl rfl rfl ?_ | refine TL.lenStr rfl rfl rfl ?_ | refine TL.not rfl rfl rfl ?_ | refine TL.skipG rfl rfl ?_ | refine TL.pickT rfl rfl rfl rfl ?_ | refine TL.pickF rfl rfl rfl rfl ?_ | refine TL.extract rfl rfl rfl rfl ?_ | refine TL.maxI rfl rfl rfl rfl ?_ | refine TL.minI rfl rfl rfl rfl ?_ | refine TL.nilCheckF rfl rfl rfl ?_ | refine TL.nil ?_ | refine T.seqK fun K hK => ?_ | (refine T.regionO fun ops => ?_) | refine T.condT rfl ?_ | refine T.condF rfl ?_ | refine T.block ?_ | refine T.skip ?_ | refine T.ret ?_ | refine T.exit ?_ | (refine hK _ _ ?_; clear hK K) | clear hK K | clear ops)
    refine TL.call rfl rfl rfl (Pack_ret _ _ w2 hlv.lsr.bb (by simp; omega) (by omega)) ?_
    rintro r w3 hr
    rw [if_pos (by
      intro x hx
      obtain ⟨t, ht', rfl⟩ := List.mem_map.1 hx
      have := encK_len (hok t ht') (hkv t ht').1 (hkv t ht').2; omega)] at hr
    obtain ⟨pv, rfl, hpv⟩ := hr
    obtain ⟨pa, pc, rfl⟩ := hpv.shape
    repeat (first | refine TL.move rfl rfl rfl ?_ | refine TL.assign rfl rfl rfl ?_ | refine TL.nilCheck rfl rfl rfl ?_ | refine TL.fieldAddr rfl rfl rfl ?_ | refine TL.convI rfl rfl rfl ?_ | refine TL.cmpI rfl rfl rfl rfl rfl ?_ | refine TL.arith rfl rfl rfl rfl rfl ?_ | refine TL.lenS rfl rfl rfl ?_ | refine TL.lenStr rfl rfl rfl ?_ | refine TL.not rfl rfl rfl ?_ | refine TL.skipG rfl rfl ?_ | refine TL.pickT rfl rfl rfl rfl ?_ | refine TL.pickF rfl rfl rfl rfl ?_ | refine TL.extract rfl rfl rfl rfl ?_ | refine TL.maxI rfl rfl rfl rfl ?_ | refine TL.minI rfl rfl rfl rfl ?_ | refine TL.nilCheckF rfl rfl rfl ?_ | refine TL.nil ?_ | refine T.seqK fun K hK => ?_ | refine T.region ?_ | refine T.condT rfl ?_ | refine T.condF rfl ?_ | refine T.block ?_ | refine T.skip ?_ | refine T.ret ?_ | refine T.exit ?_ | (refine hK _ _ ?_; clear hK K) | clear hK K)
    refine T.cond rfl (fun hq => ?_) (fun hq => ?_)
    · have hq' : 65536 < (packB (ts.map fun t => (encK t).1)).length := by have := of_decide_eq_true hq; omega
      repeat (first | refine TL.move rfl rfl rfl ?_ | refine TL.assign rfl rfl rfl ?_ | refine TL.nilCheck rfl rfl rfl ?_ | refine TL.fieldAddr rfl rfl rfl ?_ | refine TL.convI rfl rfl rfl ?_ | refine TL.cmpI rfl rfl rfl rfl rfl ?_ | refine TL.arith rfl rfl rfl rfl rfl ?_ | refine TL.lenS rfl rfl rfl ?_ | refine TL.lenStr rfl rfl rfl ?_ | refine TL.not rfl rfl rfl ?_ | refine TL.skipG rfl rfl ?_ | refine TL.pickT rfl rfl rfl rfl ?_ | refine TL.pickF rfl rfl rfl rfl ?_ | refine TL.extract rfl rfl rfl rfl ?_ | refine TL.maxI rfl rfl rfl rfl ?_ | refine TL.minI rfl rfl rfl rfl ?_ | refine TL.nilCheckF rfl rfl rfl ?_ | refine TL.nil ?_ | refine T.seqK fun K hK => ?_ | refine T.region ?_ | refine T.condT rfl ?_ | refine T.condF rfl ?_ | refine T.block ?_ | refine T.skip ?_ | refine T.ret ?_ | refine T.exit ?_ | (refine hK _ _ ?_; clear hK K) | clear hK K)
      have e : encM ts = ([], 3) := by rw [encM, if_neg hc', if_pos herr0, if_pos hq']
      exact ⟨_, rfl, hw2.trans hpv.below, _, by rw [e], by rw [e]; exact By.nil0 _⟩
    · have hq' : ¬ 65536 < (packB (ts.map fun t => (encK t).1)).length := by have := of_decide_eq_false hq; omega
      repeat (first | refine TL.move rfl rfl rfl ?_ | refine TL.assign rfl rfl rfl ?_ | refine TL.nilCheck rfl rfl rfl ?_ | refine TL.fieldAddr rfl rfl rfl ?_ | refine TL.convI rfl rfl rfl ?_ | refine TL.cmpI rfl rfl rfl rfl rfl ?_ | refine TL.arith rfl rfl rfl rfl rfl ?_ | refine TL.lenS rfl rfl rfl ?_ | refine TL.lenStr rfl rfl rfl ?_ | refine TL.not rfl rfl rfl ?_ | refine TL.skipG rfl rfl ?_ | refine TL.pickT rfl rfl rfl rfl ?_ | refine TL.pickF rfl rfl rfl rfl ?_ | refine TL.extract rfl rfl rfl rfl ?_ | refine TL.maxI rfl rfl rfl rfl ?_ | refine TL.minI rfl rfl rfl rfl ?_ | refine TL.nilCheckF rfl rfl rfl ?_ | refine TL.nil ?_ | refine T.seqK fun K hK => ?_ | refine T.region ?_ | refine T.condT rfl ?_ | refine T.condF rfl ?_ | refine T.block ?_ | refine T.skip ?_ | refine T.ret ?_ | refine T.exit ?_ | (refine hK _ _ ?_; clear hK K) | clear hK K)
      have e : encM ts = (packB (ts.map fun t => (encK t).1), 0) := by rw [encM, if_neg hc', if_pos herr0, if_neg hq']
      exact ⟨_, rfl, hw2.trans hpv.below, _, by rw [e], by rw [e]; exact By.any hpv.by_⟩
end Go.Proofs
