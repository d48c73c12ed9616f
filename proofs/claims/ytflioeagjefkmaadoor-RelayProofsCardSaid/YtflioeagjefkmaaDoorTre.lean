/- Trees as they lie in memory; what tree.size and tree.Hash come to. Conditions: as each theorem says. -/
import Derived.Test.YtflioeagjefkmaaDoorSum
import Derived.Test.YtflioeagjefkmaaDoorNm
set_option linter.all false
namespace Go.Fw
open Go.RowKit
abbrev Any : Nat → Prop := fun _ => True
/-- bytes, wherever they lie -/
abbrev B0 (w : World) (v : Value) (l : List UInt8) : Prop := By Any w v l
theorem By.any {F : Nat → Prop} {w : World} {v : Value} {l : List UInt8} (h : By F w v l) : B0 w v l := h.sub fun _ _ => trivial
theorem By.ext {F : Nat → Prop} {w w' : World} {v : Value} {l : List UInt8} (h : By F w v l) (he : Ext w w') : By F w' v l := h.keep (Same.ofBelow he _)
theorem Rd.ext {F : Nat → Prop} {w w' : World} {sz : Nat} {v : Value} {m : Nat} {xs : List Value} (h : Rd F w sz v m xs) (he : Ext w w') : Rd F w' sz v m xs := h.keep (Same.ofBelow he _)
theorem BB.ext {F G : Nat → Prop} {w w' : World} {v : Value} {ls : List (List UInt8)} (h : BB F G w v ls) (he : Ext w w') : BB F G w' v ls := h.keep (Same.ofBelow he _) (Same.ofBelow he _)
theorem Bys.nil {F : Nat → Prop} {w : World} : Bys F w [] [] := ⟨rfl, fun _ _ _ h _ => by simp at h⟩
theorem Bys.cons {F : Nat → Prop} {w : World} {v : Value} {l : List UInt8} {vs : List Value} {ls : List (List UInt8)} (h : By F w v l) (k : Bys F w vs ls) : Bys F w (v :: vs) (l :: ls) :=
  ⟨by simp [k.1], fun i u m hu hm => by
    cases i with
    | zero => simp at hu hm; subst hu hm; exact h
    | succ i => exact k.2 i u m (by simpa using hu) (by simpa using hm)⟩
theorem BB.any {F G : Nat → Prop} {w : World} {v : Value} {ls : List (List UInt8)} (h : BB F G w v ls) : BB Any Any w v ls :=
  let ⟨vs, hr, hb⟩ := h; ⟨vs, hr.sub fun _ _ => trivial, hb.1, fun i u l hu hl => (hb.2 i u l hu hl).any⟩
theorem Al.bb {w w' : World} {b : Nat} {vs : List Value} {e : TypeId} {len : Nat} {ls : List (List UInt8)} {G : Nat → Prop} (h : Al w w' b (.cells vs.toArray e)) (hl : ls.length = len) (hm : len ≤ maxLen) (hb : Bys G w vs ls) : BB Any Any w' (.slice (some ⟨b, 0, none⟩) len len) ls := by
  subst hl
  exact BB.any (F := (· = b)) (G := G) ⟨vs, h.rd hb.1 hm, hb.keep (Same.ofBelow h.below _)⟩
theorem Row.by_ {w : World} {b : Nat} {l : List UInt8} {t : TypeId} {fr : Nat × Nat} {A C : List Value} (h : Row w b (A ++ l.map vb ++ C) t fr) (hm : l.length ≤ maxLen) : B0 w (.slice (some ⟨b, A.length, none⟩) l.length l.length) l :=
  ⟨_, _, rfl, by simp, Nat.le_refl _, hm, (fun h => by cases h), fun _ => ⟨b, A.length, rfl, trivial, fun j u hu => by
    have hj : j < (l.map vb).length := (List.getElem?_eq_some_iff.1 hu).1
    rw [h.cell, List.append_assoc, List.getElem?_append_right (by omega), Nat.add_sub_cancel_left, List.getElem?_append_left hj]; exact hu⟩⟩

end Go.Fw
namespace Go.Proofs
open Go.Fw Go.RowKit
attribute [local irreducible] TL T TS Ev Ret
theorem KW.ext {w w' : World} (h : KW w) (he : Ext w w') : KW w' := h.keep he
/-- A tree's nodes. -/
inductive Tr where
  | leaf (k v : List UInt8)
  | node (l r : Tr)
namespace Tr
def least : Tr → List UInt8
  | leaf k _ => k
  | node l _ => l.least
def key : Tr → List UInt8
  | leaf k _ => k
  | node _ r => r.least
def val : Tr → List UInt8
  | leaf _ v => v
  | node _ _ => []
def ht : Tr → Nat
  | leaf _ _ => 0
  | node l r => 1 + max l.ht r.ht
def sz : Tr → Nat
  | leaf _ _ => 1
  | node l r => l.sz + r.sz
end Tr
/-- a node's sum, of its parts -/
def hashF (k v : List UInt8) (h s : Nat) (L R : List UInt8) : List UInt8 :=
  if h = 0 then shaF [[0, UInt8.ofNat k.length], k, shaF v].flatten else shaF [[1, UInt8.ofNat h], be8 s 8, L, R].flatten
def z32 : List UInt8 := List.replicate 32 0
theorem hashF_len (k v : List UInt8) (h s : Nat) (L R : List UInt8) : (hashF k v h s L R).length = 32 := by unfold hashF; split <;> exact shaF_len _
namespace Tr
def hash : Tr → List UInt8
  | leaf k v => hashF k v 0 1 z32 z32
  | node l r => hashF r.least [] (node l r).ht (node l r).sz l.hash r.hash
def lh : Tr → List UInt8
  | leaf _ _ => z32
  | node l _ => l.hash
def rh : Tr → List UInt8
  | leaf _ _ => z32
  | node _ r => r.hash
theorem hash_len (t : Tr) : t.hash.length = 32 := by cases t <;> exact hashF_len ..
theorem lh_len (t : Tr) : t.lh.length = 32 := by cases t <;> simp [lh, z32, hash_len]
theorem rh_len (t : Tr) : t.rh.length = 32 := by cases t <;> simp [rh, z32, hash_len]
theorem hash_eq (t : Tr) : t.hash = hashF t.key t.val t.ht t.sz t.lh t.rh := by cases t <;> rfl
end Tr

/-- the cells of an api.Node -/
def ncs (kv vv : Value) (h s : Nat) (L R : List UInt8) : List Value := [kv, vv, .int .i64 h, .int .u64 s] ++ L.map vb ++ R.map vb
/-- the cells of a tree.node -/
def tcs (kv vv : Value) (t : Tr) (pl pr : Value) : List Value := ncs kv vv t.ht t.sz t.lh t.rh ++ t.hash.map vb ++ [pl, pr]
abbrev nilp : Value := .pointer none
abbrev nils : Value := .slice none 0 0
theorem ncs_len (kv vv : Value) (h s : Nat) (L R : List UInt8) (hL : L.length = 32) (hR : R.length = 32) : (ncs kv vv h s L R).length = 68 := by simp [ncs, hL, hR]

/-- A tree lies in memory. -/
def IsT (w : World) : Tr → Value → Prop
  | .leaf k v, p => ∃ b kv vv, p = .pointer (some ⟨b, 0, none⟩) ∧ Row w b (tcs kv vv (.leaf k v) nilp nilp) 132 (0, 0) ∧ B0 w kv k ∧ B0 w vv v
  | .node l r, p => ∃ b kv pl pr, p = .pointer (some ⟨b, 0, none⟩) ∧ Row w b (tcs kv nils (.node l r) pl pr) 132 (0, 0) ∧ B0 w kv r.least ∧ IsT w l pl ∧ IsT w r pr

theorem IsT.ext {w w' : World} (he : Ext w w') : ∀ {t : Tr} {p : Value}, IsT w t p → IsT w' t p
  | .leaf k v, p, ⟨b, kv, vv, hp, hr, hk, hv⟩ => ⟨b, kv, vv, hp, hr.keepA he, hk.ext he, hv.ext he⟩
  | .node l r, p, ⟨b, kv, pl, pr, hp, hrow, hk, hl, hr⟩ => ⟨b, kv, pl, pr, hp, hrow.keepA he, hk.ext he, IsT.ext he hl, IsT.ext he hr⟩

theorem By.nil0 (w : World) : B0 w nils [] := ⟨none, 0, rfl, by simp, Nat.le_refl _, Nat.zero_le _, fun _ => rfl, fun h => absurd rfl h⟩

/-- what any node shows -/
theorem IsT.out {w : World} {t : Tr} {p : Value} (h : IsT w t p) : ∃ b kv vv pl pr, p = .pointer (some ⟨b, 0, none⟩) ∧ Row w b (tcs kv vv t pl pr) 132 (0, 0) ∧ B0 w kv t.key ∧ B0 w vv t.val ∧
    (match t with | .leaf _ _ => pl = nilp ∧ pr = nilp | .node l r => IsT w l pl ∧ IsT w r pr) := by
  cases t with
  | leaf k v => obtain ⟨b, kv, vv, hp, hr, hk, hv⟩ := h; exact ⟨b, kv, vv, _, _, hp, hr, hk, hv, rfl, rfl⟩
  | node l r => obtain ⟨b, kv, pl, pr, hp, hrow, hk, hl, hr⟩ := h; exact ⟨b, kv, _, pl, pr, hp, hrow, hk, By.nil0 w, hl, hr⟩

set_option maxRecDepth 20000 in
set_option maxHeartbeats 1000000 in
theorem Size_ret (s : Nat) (hs : s < 2 ^ 64) (w : World) : Ret Tryd.prog 107 #[.int .u64 s] w fun r w' => Ext w w' ∧ B0 w' r (be8 s 8) := by
  refine Ret.of_T Tryd.func107 rfl Tryd.ntmps107 Tryd.results107 rfl ?_
  repeat (first | refine TL.move rfl rfl rfl ?_ | refine TL.assign rfl rfl rfl ?_ | refine TL.nilCheck rfl rfl rfl ?_ | refine TL.fieldAddr rfl rfl rfl ?_ | refine TL.convI rfl rfl rfl ?_ | refine TL.cmpI rfl rfl rfl rfl rfl ?_ | refine TL.arith rfl rfl rfl rfl rfl ?_ | refine TL.lenS rfl rfl rfl ?_ | refine TL.lenStr rfl rfl rfl ?_ | refine TL.not rfl rfl rfl ?_ | refine TL.skipG rfl rfl ?_ | refine TL.pickT rfl rfl rfl rfl ?_ | refine TL.pickF rfl rfl rfl rfl ?_ | refine TL.extract rfl rfl rfl rfl ?_ | refine TL.maxI rfl rfl rfl rfl ?_ | refine TL.minI rfl rfl rfl rfl ?_ | refine TL.nilCheckF rfl rfl rfl ?_ | refine TL.nil ?_ | refine T.seqK fun K hK => ?_ | (refine T.regionO fun ops => ?_) | refine T.condT rfl ?_ | refine T.condF rfl ?_ | refine T.block ?_ | refine T.skip ?_ | refine T.ret ?_ | refine T.exit ?_ | (refine hK _ _ ?_; clear hK K) | clear hK K | clear ops)
  refine TL.alloc rfl rfl fun b w1 hal => ?_
  have hO : Row w1 b ((be8 s 0 ++ List.replicate (8 - 0) 0).map vb) 247 (0, 0) := hal.at_
  have hb : w.heap.size ≤ b := by rw [hal.num]; exact Nat.le_refl _
  repeat (first | refine TL.move rfl rfl rfl ?_ | refine TL.assign rfl rfl rfl ?_ | refine TL.nilCheck rfl rfl rfl ?_ | refine TL.fieldAddr rfl rfl rfl ?_ | refine TL.convI rfl rfl rfl ?_ | refine TL.cmpI rfl rfl rfl rfl rfl ?_ | refine TL.arith rfl rfl rfl rfl rfl ?_ | refine TL.lenS rfl rfl rfl ?_ | refine TL.lenStr rfl rfl rfl ?_ | refine TL.not rfl rfl rfl ?_ | refine TL.skipG rfl rfl ?_ | refine TL.pickT rfl rfl rfl rfl ?_ | refine TL.pickF rfl rfl rfl rfl ?_ | refine TL.extract rfl rfl rfl rfl ?_ | refine TL.maxI rfl rfl rfl rfl ?_ | refine TL.minI rfl rfl rfl rfl ?_ | refine TL.nilCheckF rfl rfl rfl ?_ | refine TL.nil ?_ | refine T.seqK fun K hK => ?_ | (refine T.regionO fun ops => ?_) | refine T.condT rfl ?_ | refine T.condF rfl ?_ | refine T.block ?_ | refine T.skip ?_ | refine T.ret ?_ | refine T.exit ?_ | (refine hK _ _ ?_; clear hK K) | clear hK K | clear ops)
  refine T.loop (fun m L w' => ∃ k : Nat, Less [(0, .int .u64 s), (3, .pointer (some ⟨b, 0, none⟩)), (5, .int .i64 k)] L ∧ Ext w w' ∧ Row w' b ((be8 s k ++ List.replicate (8 - k) 0).map vb) 247 (0, 0) ∧ k + m = 8) 8
    ⟨0, (by repeat (first | exact Less.nil _ | refine Less.cons rfl ?_)), hal.below, hO, rfl⟩ ?_
  rintro m L w2 ⟨k, hL, hbel, hO, hkm⟩
  refine T.sub hL ?_
  repeat (first | refine TL.move rfl rfl rfl ?_ | refine TL.assign rfl rfl rfl ?_ | refine TL.nilCheck rfl rfl rfl ?_ | refine TL.fieldAddr rfl rfl rfl ?_ | refine TL.convI rfl rfl rfl ?_ | refine TL.cmpI rfl rfl rfl rfl rfl ?_ | refine TL.arith rfl rfl rfl rfl rfl ?_ | refine TL.lenS rfl rfl rfl ?_ | refine TL.lenStr rfl rfl rfl ?_ | refine TL.not rfl rfl rfl ?_ | refine TL.skipG rfl rfl ?_ | refine TL.pickT rfl rfl rfl rfl ?_ | refine TL.pickF rfl rfl rfl rfl ?_ | refine TL.extract rfl rfl rfl rfl ?_ | refine TL.maxI rfl rfl rfl rfl ?_ | refine TL.minI rfl rfl rfl rfl ?_ | refine TL.nilCheckF rfl rfl rfl ?_ | refine TL.nil ?_ | refine T.seqK fun K hK => ?_ | (refine T.regionO fun ops => ?_) | refine T.condT rfl ?_ | refine T.condF rfl ?_ | refine T.block ?_ | refine T.skip ?_ | refine T.ret ?_ | refine T.exit ?_ | (refine hK _ _ ?_; clear hK K) | clear hK K | clear ops)
  refine T.cond rfl (fun hc => ?_) (fun hc => ?_)
  · have hk : k < 8 := by simp at hc; omega
    repeat (first | refine TL.move rfl rfl rfl ?_ | refine TL.assign rfl rfl rfl ?_ | refine TL.nilCheck rfl rfl rfl ?_ | refine TL.fieldAddr rfl rfl rfl ?_ | refine TL.convI rfl rfl rfl ?_ | refine TL.cmpI rfl rfl rfl rfl rfl ?_ | refine TL.arith rfl rfl rfl rfl rfl ?_ | refine TL.lenS rfl rfl rfl ?_ | refine TL.lenStr rfl rfl rfl ?_ | refine TL.not rfl rfl rfl ?_ | refine TL.skipG rfl rfl ?_ | refine TL.pickT rfl rfl rfl rfl ?_ | refine TL.pickF rfl rfl rfl rfl ?_ | refine TL.extract rfl rfl rfl rfl ?_ | refine TL.maxI rfl rfl rfl rfl ?_ | refine TL.minI rfl rfl rfl rfl ?_ | refine TL.nilCheckF rfl rfl rfl ?_ | refine TL.nil ?_ | refine T.seqK fun K hK => ?_ | (refine T.regionO fun ops => ?_) | refine T.condT rfl ?_ | refine T.condF rfl ?_ | refine T.block ?_ | refine T.skip ?_ | refine T.ret ?_ | refine T.exit ?_ | (refine hK _ _ ?_; clear hK K) | clear hK K | clear ops)
    have hq : IntKind.i64.wrap (56 - IntKind.i64.wrap (8 * (k : Int))) = ((56 - 8 * k : Nat) : Int) := by
      rw [wr_i64 (x := 8 * (k : Int)) (by omega) (by omega), wr_i64 (by omega) (by omega)]; omega
    rw [hq]
    refine TL.shr rfl rfl rfl rfl (by omega) ?_
    refine TL.norm (v' := .int .u64 ((s / 2 ^ (56 - 8 * k) : Nat) : Int)) (by rw [fdiv_nat]; congr 4; simp [IntKind.bits]; omega) ?_
    refine TL.convI rfl rfl rfl ?_
    refine TL.norm (v' := vb (UInt8.ofNat (s / 2 ^ (56 - 8 * k)))) (by rw [wr_u8_nat]; rfl) ?_
    refine TL.indexAddrA rfl rfl rfl rfl (by omega) (by omega) ?_
    refine TL.storeRS (i := k) rfl rfl rfl hO (by simp) (by simp [be8]; omega) rfl fun w3 hgr hO3 hsz => ?_
    have hO4 : Row w3 b ((be8 s (k + 1) ++ List.replicate (8 - (k + 1)) 0).map vb) 247 (0, 0) := by
      have e : ((be8 s k ++ List.replicate (8 - k) 0).map vb).set k (vb (UInt8.ofNat (s / 2 ^ (56 - 8 * k)))) = (be8 s (k + 1) ++ List.replicate (8 - (k + 1)) 0).map vb := by
        rw [← List.map_set]
        congr 1
        have hlen : (be8 s k).length = k := be8_len _ _
        rw [List.set_append, if_neg (by omega), hlen, Nat.sub_self]
        rw [show 8 - k = (8 - (k + 1)) + 1 from by omega, List.replicate_succ, List.set_cons_zero]
        simp [be8, List.range_succ]
      rw [← e]; exact hO3
    repeat (first | refine TL.move rfl rfl rfl ?_ | refine TL.assign rfl rfl rfl ?_ | refine TL.nilCheck rfl rfl rfl ?_ | refine TL.fieldAddr rfl rfl rfl ?_ | refine TL.convI rfl rfl rfl ?_ | refine TL.cmpI rfl rfl rfl rfl rfl ?_ | refine TL.arith rfl rfl rfl rfl rfl ?_ | refine TL.lenS rfl rfl rfl ?_ | refine TL.lenStr rfl rfl rfl ?_ | refine TL.not rfl rfl rfl ?_ | refine TL.skipG rfl rfl ?_ | refine TL.pickT rfl rfl rfl rfl ?_ | refine TL.pickF rfl rfl rfl rfl ?_ | refine TL.extract rfl rfl rfl rfl ?_ | refine TL.maxI rfl rfl rfl rfl ?_ | refine TL.minI rfl rfl rfl rfl ?_ | refine TL.nilCheckF rfl rfl rfl ?_ | refine TL.nil ?_ | refine T.seqK fun K hK => ?_ | (refine T.regionO fun ops => ?_) | refine T.condT rfl ?_ | refine T.condF rfl ?_ | refine T.block ?_ | refine T.skip ?_ | refine T.ret ?_ | refine T.exit ?_ | (refine hK _ _ ?_; clear hK K) | clear hK K | clear ops)
    refine ⟨m - 1, by omega, k + 1, ?_, Below.trans hbel (below_grown hgr hb hbel.size), hO4, by omega⟩
    repeat (first | exact Less.nil _ | refine Less.cons rfl ?_)
    refine Less.cons' rfl (by rw [wr_succ (by omega)]) ?_
    repeat (first | exact Less.nil _ | refine Less.cons rfl ?_)
  · have hk : k = 8 := by simp at hc; omega
    subst hk
    repeat (first | refine TL.move rfl rfl rfl ?_ | refine TL.assign rfl rfl rfl ?_ | refine TL.nilCheck rfl rfl rfl ?_ | refine TL.fieldAddr rfl rfl rfl ?_ | refine TL.convI rfl rfl rfl ?_ | refine TL.cmpI rfl rfl rfl rfl rfl ?_ | refine TL.arith rfl rfl rfl rfl rfl ?_ | refine TL.lenS rfl rfl rfl ?_ | refine TL.lenStr rfl rfl rfl ?_ | refine TL.not rfl rfl rfl ?_ | refine TL.skipG rfl rfl ?_ | refine TL.pickT rfl rfl rfl rfl ?_ | refine TL.pickF rfl rfl rfl rfl ?_ | refine TL.extract rfl rfl rfl rfl ?_ | refine TL.maxI rfl rfl rfl rfl ?_ | refine TL.minI rfl rfl rfl rfl ?_ | refine TL.nilCheckF rfl rfl rfl ?_ | refine TL.nil ?_ | refine T.seqK fun K hK => ?_ | (refine T.regionO fun ops => ?_) | refine T.condT rfl ?_ | refine T.condF rfl ?_ | refine T.block ?_ | refine T.skip ?_ | refine T.ret ?_ | refine T.exit ?_ | (refine hK _ _ ?_; clear hK K) | clear hK K | clear ops)
    refine TL.ev rfl rfl (Ev.sliceArr rfl) ?_
    repeat (first | refine TL.move rfl rfl rfl ?_ | refine TL.assign rfl rfl rfl ?_ | refine TL.nilCheck rfl rfl rfl ?_ | refine TL.fieldAddr rfl rfl rfl ?_ | refine TL.convI rfl rfl rfl ?_ | refine TL.cmpI rfl rfl rfl rfl rfl ?_ | refine TL.arith rfl rfl rfl rfl rfl ?_ | refine TL.lenS rfl rfl rfl ?_ | refine TL.lenStr rfl rfl rfl ?_ | refine TL.not rfl rfl rfl ?_ | refine TL.skipG rfl rfl ?_ | refine TL.pickT rfl rfl rfl rfl ?_ | refine TL.pickF rfl rfl rfl rfl ?_ | refine TL.extract rfl rfl rfl rfl ?_ | refine TL.maxI rfl rfl rfl rfl ?_ | refine TL.minI rfl rfl rfl rfl ?_ | refine TL.nilCheckF rfl rfl rfl ?_ | refine TL.nil ?_ | refine T.seqK fun K hK => ?_ | (refine T.regionO fun ops => ?_) | refine T.condT rfl ?_ | refine T.condF rfl ?_ | refine T.block ?_ | refine T.skip ?_ | refine T.ret ?_ | refine T.exit ?_ | (refine hK _ _ ?_; clear hK K) | clear hK K | clear ops)
    have hO' : Row w2 b ([] ++ (be8 s 8).map vb ++ []) 247 (0, 0) := by simpa using hO
    have := Row.by_ hO' (by simp [be8_len, maxLen])
    rw [be8_len] at this
    exact ⟨_, rfl, hbel, this⟩
end Go.Proofs
