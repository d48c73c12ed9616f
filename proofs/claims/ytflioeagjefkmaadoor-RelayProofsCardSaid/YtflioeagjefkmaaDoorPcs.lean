/- What multi.pieces and multi.Make come to. Conditions: as each theorem says. -/
import Derived.Test.YtflioeagjefkmaaDoorWan
import Derived.Test.YtflioeagjefkmaaDoorFwK
set_option linter.all false
namespace Go.Fw
open Go.RowKit
section
variable {P : Program} {ops : Array Oper} {n : Nat} {L : Sl} {rest : List Oper} {w : World} {N : Sl → World → Prop}
variable {d : Nat} {ty : TypeId} {ps : String} {af : Array Edge} {g : Option (Nat × Bool)}
/-- one part more on a list, in a literal of one part -/
theorem TL.push1 {α : Type} {E : Elm α} {t e : TypeId} [ht : Und P t (.slice e)] {by_ : Nat} {z : Value} {sz : Nat} [hi : Inf P e sz by_ z] {s : Operand} {d' : Nat} {x : Operand} {sv : Value} {cs : List Value} {B : Nat} {xs : List α} {a : α} {w0 : World} {ty' : TypeId} {ps' : String} {af' : Array Edge} {g' : Option (Nat × Bool)}
    (hg' : gd ops L g' = some true) (hd' : Nat.blt d' n = true) (hx : opv L x = some (.agg cs.toArray)) (hg : ∀ v, gd ops ((d', v) :: L) g = some true) (hd : Nat.blt d n = true) (hs : ∀ v, opv ((d', v) :: L) s = some sv) (hE : E.sz = sz) (hacc : Lst E B w0 w e sv xs)
    (hel : E.rel (fun k => sv.ownBlock ≠ some k ∧ k < w.heap.size) w cs a) (hsz : Nat.blt 0 sz = true) (hsz' : Nat.ble (1 * sz) 65536 = true)
    (hb : (xs.length + 1) * by_ ≤ 140737488355328) (hm : xs.length + 1 ≤ maxLen)
    (k : ∀ u v' w', Lst E B w0 w' e v' (xs ++ [a]) → w.grownBy w' sv.ownBlock → (∀ k, v'.ownBlock = some k → sv.ownBlock = some k ∨ w.heap.size ≤ k) → TL P ops n ((d, v') :: (d', u) :: L) rest w' N) :
    TL P ops n L (⟨some d', .buildSlice t 1 [(0, x)].toArray, ty', ps', af', g'⟩ :: ⟨some d, .call ⟨.builtin .append, #[s, .tmp d'], #[t, t]⟩, ty, ps, af, g⟩ :: rest) w N := by
  refine TL.buildSliceN (vs := [.agg cs.toArray]) hg' hd' rfl (by simp [opvs, hx]) rfl (by intro v hv; simp at hv; subst hv; simp [Value.cells]; rw [← hE]; exact E.len hel) hsz rfl hsz' fun b w1 hal => ?_
  have hal' : Al w w1 b (.cells cs.toArray e) := by simpa [Value.cells] using hal
  have hrd : Rd (· = b) w1 E.sz (.slice (some ⟨b, 0, none⟩) 1 1) 1 cs := Al.rdN hal' (by rw [Nat.one_mul]; exact E.len hel) (by simp [maxLen])
  have he := hal'.below
  refine TL.pushE (E := E) (hg _) hd (hs _) (by simp [opv, lk]) hE (hacc.keep he) hrd (E.keep hel (Same.ofBelow he _)) (fun j hj => hj.1) hsz hb hm fun v' w' h1 h2 h3 => k _ v' w' h1 (grown_trans (grown_below he _) h2) fun j hj => ?_
  rcases h3 j hj with h | h
  · exact .inl h
  · exact .inr (Nat.le_trans he.size h)
end
end Go.Fw
namespace Go.Proofs
open Go.Fw Go.RowKit
attribute [local irreducible] TL T TS Ev Ret

/-- a tree's tokens -/
def piecesT : Tr → List (List UInt8) → List Tk
  | .leaf k v, want => if want = [] then [⟨1, (Tr.leaf k v).hash, [], [], 0, 0⟩] else [⟨2, z32, k, v, 0, 0⟩]
  | .node l r, want => if want = [] then [⟨1, (Tr.node l r).hash, [], [], 0, 0⟩] else
      ⟨3, z32, [], [], (Tr.node l r).ht, (Tr.node l r).sz⟩ :: (piecesT l (want.take (bsI want r.least)) ++ piecesT r (want.drop (bsI want r.least)))
def makeM : Option Tr → List (List UInt8) → List Tk
  | none, _ => []
  | some t, keys => piecesT t (wantF (t.leaves.map Prod.fst) keys)
theorem piecesT_len : ∀ (t : Tr) (want : List (List UInt8)), (piecesT t want).length + 1 ≤ 2 * t.sz
  | .leaf k v, want => by rw [piecesT]; split <;> simp [Tr.sz]
  | .node l r, want => by
    have h1 := piecesT_len l (want.take (bsI want r.least))
    have h2 := piecesT_len r (want.drop (bsI want r.least))
    have := Tr.sz_pos l
    have := Tr.sz_pos r
    rw [piecesT]; split
    · simp [Tr.sz]; omega
    · simp only [List.length_cons, List.length_append, Tr.sz]; omega

set_option maxRecDepth 20000 in
theorem CloneB_ret {F : Nat → Prop} (v : Value) (bs : List Bool) (w : World) (hb : Rd F w 1 v bs.length (bs.map Value.bool)) (h0 : bs = [] → v = nils) (hn : bs.length ≤ 2 ^ 40) :
    Ret Tryd.prog 80 #[v] w fun u w' => Ext w w' ∧ w'.ownsRow w.heap.size 4 1 u bs.length (bs.map Value.bool) ∧ (bs = [] → u = nils) := by
  obtain ⟨a, c, rfl, hx⟩ := id hb
  refine Ret.of_T Tryd.func80 rfl Tryd.ntmps80 Tryd.results80 rfl ?_
  repeat (first | refine TL.move rfl rfl rfl ?_ | refine TL.assign rfl rfl rfl ?_ | refine TL.nilCheck rfl rfl rfl ?_ | refine TL.fieldAddr rfl rfl rfl ?_ | refine TL.convI rfl rfl rfl ?_ | refine TL.cmpI rfl rfl rfl rfl rfl ?_ | refine TL.arith rfl rfl rfl rfl rfl ?_ | refine TL.lenS rfl rfl rfl ?_ | refine TL.lenStr rfl rfl rfl ?_ | refine TL.not rfl rfl rfl ?_ | refine TL.skipG rfl rfl ?_ | refine TL.pickT rfl rfl rfl rfl ?_ | refine TL.pickF rfl rfl rfl rfl ?_ | refine TL.extract rfl rfl rfl rfl ?_ | refine TL.maxI rfl rfl rfl rfl ?_ | refine TL.minI rfl rfl rfl rfl ?_ | refine TL.nilCheckF rfl rfl rfl ?_ | refine TL.nil ?_ | refine T.seqK fun K hK => ?_ | refine T.region ?_ | refine T.condT rfl ?_ | refine T.condF rfl ?_ | refine T.block ?_ | refine T.skip ?_ | refine T.ret ?_ | refine T.exit ?_ | (refine hK _ _ ?_; clear hK K) | clear hK K)
  refine TL.eqNil rfl rfl rfl rfl ?_
  cases ha : a with
  | none =>
    repeat (first | refine TL.move rfl rfl rfl ?_ | refine TL.assign rfl rfl rfl ?_ | refine TL.nilCheck rfl rfl rfl ?_ | refine TL.fieldAddr rfl rfl rfl ?_ | refine TL.convI rfl rfl rfl ?_ | refine TL.cmpI rfl rfl rfl rfl rfl ?_ | refine TL.arith rfl rfl rfl rfl rfl ?_ | refine TL.lenS rfl rfl rfl ?_ | refine TL.lenStr rfl rfl rfl ?_ | refine TL.not rfl rfl rfl ?_ | refine TL.skipG rfl rfl ?_ | refine TL.pickT rfl rfl rfl rfl ?_ | refine TL.pickF rfl rfl rfl rfl ?_ | refine TL.extract rfl rfl rfl rfl ?_ | refine TL.maxI rfl rfl rfl rfl ?_ | refine TL.minI rfl rfl rfl rfl ?_ | refine TL.nilCheckF rfl rfl rfl ?_ | refine TL.nil ?_ | refine T.seqK fun K hK => ?_ | refine T.region ?_ | refine T.condT rfl ?_ | refine T.condF rfl ?_ | refine T.block ?_ | refine T.skip ?_ | refine T.ret ?_ | refine T.exit ?_ | (refine hK _ _ ?_; clear hK K) | clear hK K)
    have hnil : bs = [] := by
      cases bs with
      | nil => rfl
      | cons x l => obtain ⟨_, _, _, _, h⟩ := hx; obtain ⟨_, _, h, _⟩ := h (by simp); rw [ha] at h; cases h
    subst hnil
    exact ⟨_, rfl, Ext.refl _, World.ownsRow_nil _ _ _ _, fun _ => rfl⟩
  | some a0 =>
    have hne : bs ≠ [] := fun h => by have := h0 h; rw [ha] at this; cases this
    repeat (first | refine TL.move rfl rfl rfl ?_ | refine TL.assign rfl rfl rfl ?_ | refine TL.nilCheck rfl rfl rfl ?_ | refine TL.fieldAddr rfl rfl rfl ?_ | refine TL.convI rfl rfl rfl ?_ | refine TL.cmpI rfl rfl rfl rfl rfl ?_ | refine TL.arith rfl rfl rfl rfl rfl ?_ | refine TL.lenS rfl rfl rfl ?_ | refine TL.lenStr rfl rfl rfl ?_ | refine TL.not rfl rfl rfl ?_ | refine TL.skipG rfl rfl ?_ | refine TL.pickT rfl rfl rfl rfl ?_ | refine TL.pickF rfl rfl rfl rfl ?_ | refine TL.extract rfl rfl rfl rfl ?_ | refine TL.maxI rfl rfl rfl rfl ?_ | refine TL.minI rfl rfl rfl rfl ?_ | refine TL.nilCheckF rfl rfl rfl ?_ | refine TL.nil ?_ | refine T.seqK fun K hK => ?_ | refine T.region ?_ | refine T.condT rfl ?_ | refine T.condF rfl ?_ | refine T.block ?_ | refine T.skip ?_ | refine T.ret ?_ | refine T.exit ?_ | (refine hK _ _ ?_; clear hK K) | clear hK K)
    refine TL.buildSlice rfl rfl rfl rfl rfl (by simp) rfl fun k1 w1 hal => ?_
    have hacc : Fw.Acc w.heap.size w w1 4 1 (.slice (some ⟨k1, 0, none⟩) 0 0) 0 [] := hal.acc rfl (by simp [maxLen])
    repeat (first | refine TL.move rfl rfl rfl ?_ | refine TL.assign rfl rfl rfl ?_ | refine TL.nilCheck rfl rfl rfl ?_ | refine TL.fieldAddr rfl rfl rfl ?_ | refine TL.convI rfl rfl rfl ?_ | refine TL.cmpI rfl rfl rfl rfl rfl ?_ | refine TL.arith rfl rfl rfl rfl rfl ?_ | refine TL.lenS rfl rfl rfl ?_ | refine TL.lenStr rfl rfl rfl ?_ | refine TL.not rfl rfl rfl ?_ | refine TL.skipG rfl rfl ?_ | refine TL.pickT rfl rfl rfl rfl ?_ | refine TL.pickF rfl rfl rfl rfl ?_ | refine TL.extract rfl rfl rfl rfl ?_ | refine TL.maxI rfl rfl rfl rfl ?_ | refine TL.minI rfl rfl rfl rfl ?_ | refine TL.nilCheckF rfl rfl rfl ?_ | refine TL.nil ?_ | refine T.seqK fun K hK => ?_ | refine T.region ?_ | refine T.condT rfl ?_ | refine T.condF rfl ?_ | refine T.block ?_ | refine T.skip ?_ | refine T.ret ?_ | refine T.exit ?_ | (refine hK _ _ ?_; clear hK K) | clear hK K)
    rw [ha] at hb
    refine TL.push rfl rfl rfl rfl hacc (hb.keep (Same.ofBelow hal.below _)) (by intro u hu; obtain ⟨x, _, rfl⟩ := List.mem_map.1 hu; rfl) rfl (by omega) (by unfold maxLen; omega) fun u1 w2 h1 _ _ => ?_
    repeat (first | refine TL.move rfl rfl rfl ?_ | refine TL.assign rfl rfl rfl ?_ | refine TL.nilCheck rfl rfl rfl ?_ | refine TL.fieldAddr rfl rfl rfl ?_ | refine TL.convI rfl rfl rfl ?_ | refine TL.cmpI rfl rfl rfl rfl rfl ?_ | refine TL.arith rfl rfl rfl rfl rfl ?_ | refine TL.lenS rfl rfl rfl ?_ | refine TL.lenStr rfl rfl rfl ?_ | refine TL.not rfl rfl rfl ?_ | refine TL.skipG rfl rfl ?_ | refine TL.pickT rfl rfl rfl rfl ?_ | refine TL.pickF rfl rfl rfl rfl ?_ | refine TL.extract rfl rfl rfl rfl ?_ | refine TL.maxI rfl rfl rfl rfl ?_ | refine TL.minI rfl rfl rfl rfl ?_ | refine TL.nilCheckF rfl rfl rfl ?_ | refine TL.nil ?_ | refine T.seqK fun K hK => ?_ | refine T.region ?_ | refine T.condT rfl ?_ | refine T.condF rfl ?_ | refine T.block ?_ | refine T.skip ?_ | refine T.ret ?_ | refine T.exit ?_ | (refine hK _ _ ?_; clear hK K) | clear hK K)
    refine ⟨_, rfl, h1.below, ?_, fun h => absurd h hne⟩
    have := h1.own
    simpa using this

theorem hid_fill {h : List UInt8} (hl : h.length = 32) : fillW [(0, 1), (1, 32), (33, 1), (34, 1), (35, 1), (36, 1)] (tkc nils nils tk0) [(0, [Value.int .u8 1]), (1, h.map vb)] = some (tkc nils nils ⟨1, h, [], [], 0, 0⟩) := by
  have e : tkc nils nils tk0 = [vb 0] ++ z32.map vb ++ [nils, nils, .int .i64 0, .int .u64 0] := rfl
  have hz : (z32.map vb).length = 32 := rfl
  simp only [fillW, List.getElem?_cons_zero, List.getElem?_cons_succ, e]
  rw [if_pos ⟨rfl, by simp [z32]⟩, if_pos ⟨by simp [hl], by simp [z32]⟩]
  simp [tkc, z32, vb]

theorem hid_ok {h : List UInt8} (hl : h.length = 32) : Tk.ok ⟨1, h, [], [], 0, 0⟩ := ⟨hl, (show (-9223372036854775808 : Int) ≤ 0 by decide), (show (0 : Int) < 9223372036854775808 by decide), (show 0 < 2 ^ 64 by decide)⟩
theorem lf_ok (k v : List UInt8) : Tk.ok ⟨2, z32, k, v, 0, 0⟩ := ⟨rfl, (show (-9223372036854775808 : Int) ≤ 0 by decide), (show (0 : Int) < 9223372036854775808 by decide), (show 0 < 2 ^ 64 by decide)⟩
theorem leaf_fill (kv vv : Value) (a1 a2 : Option Addr) (m1 c1 m2 c2 : Nat) (h1 : kv = .slice a1 m1 c1) (h2 : vv = .slice a2 m2 c2) (k v : List UInt8) : fillW [(0, 1), (1, 32), (33, 1), (34, 1), (35, 1), (36, 1)] (tkc nils nils tk0) [(0, [Value.int .u8 2]), (2, kv.cells.toList), (3, vv.cells.toList)] = some (tkc kv vv ⟨2, z32, k, v, 0, 0⟩) := by
  subst h1 h2; rfl
theorem inner_fill (h : Int) (s : Nat) : fillW [(0, 1), (1, 32), (33, 1), (34, 1), (35, 1), (36, 1)] (tkc nils nils tk0) [(0, [Value.int .u8 3]), (4, [Value.int .i64 h]), (5, [Value.int .u64 s])] = some (tkc nils nils ⟨3, z32, [], [], h, s⟩) := rfl

set_option maxRecDepth 20000 in
set_option maxHeartbeats 8000000 in
theorem pieces_ret (w0 : World) (root : Tr) (p : Value) (hroot : IsR w0 (some root) p) (hW : KW w0) (hf : root.fit) (hsz : root.sz ≤ 2 ^ 30) : ∀ (t : Tr) (way : List Bool) (wv wantv out : Value) (want : List (List UInt8)) (xs : List Tk) (w : World) (_ : root.at_ way = some t)
    (_ : Rd (fun k => out.ownBlock ≠ some k) w 1 wv way.length (way.map Value.bool)) (_ : way = [] → wv = nils) (_ : Lsr bytesE (fun k => k < w0.heap.size) w wantv want) (_ : Lst tokE w0.heap.size w0 w 58 out xs) (_ : xs.length + 2 * t.sz ≤ 2 ^ 33) (_ : way.length + t.sz ≤ 2 ^ 31) (_ : want.length ≤ 2 ^ 33),
    Ret Tryd.prog 49 #[p, wv, wantv, out] w fun u w' => Lst tokE w0.heap.size w0 w' 58 u (xs ++ piecesT t want) ∧ w.grownBy w' out.ownBlock ∧ (∀ k, u.ownBlock = some k → out.ownBlock = some k ∨ w.heap.size ≤ k) := by
  intro t
  induction t with
  | leaf k v =>
    intro way wv wantv out want xs w hat hway hway0 hwant hout hxl hwl hwn
    have hb : Below w0.heap.size w0 w := hout.below
    have hfit := Tr.at_fit hat hf
    have hok := Tr.nd_ok hfit.1 (by omega)
    obtain ⟨wa, wc, rfl, _⟩ := hwant.shape
    obtain ⟨nd, hnd⟩ : ∃ nd, nd = (Tr.leaf k v).nd := ⟨_, rfl⟩
    have hln := fun kv vv => ncs_len kv vv nd.h nd.s nd.L nd.R (by rw [hnd]; exact hok.L) (by rw [hnd]; exact hok.R)
    have hhash : hashF nd.k nd.v nd.h nd.s nd.L nd.R = (Tr.leaf k v).hash := by rw [hnd]; exact (Tr.hash_eq _).symm
    refine Ret.of_T Tryd.func49 rfl Tryd.ntmps49 Tryd.results49 rfl ?_
    repeat (first | refine TL.move rfl rfl rfl ?_ | refine TL.assign rfl rfl rfl ?_ | refine TL.nilCheck rfl rfl rfl ?_ | refine TL.fieldAddr rfl rfl rfl ?_ | refine TL.convI rfl rfl rfl ?_ | refine TL.cmpI rfl rfl rfl rfl rfl ?_ | refine TL.arith rfl rfl rfl rfl rfl ?_ | refine TL.lenS rfl rfl rfl ?_ | refine TL.lenStr rfl rfl rfl ?_ | refine TL.not rfl rfl rfl ?_ | refine TL.skipG rfl rfl ?_ | refine TL.pickT rfl rfl rfl rfl ?_ | refine TL.pickF rfl rfl rfl rfl ?_ | refine TL.extract rfl rfl rfl rfl ?_ | refine TL.maxI rfl rfl rfl rfl ?_ | refine TL.minI rfl rfl rfl rfl ?_ | refine TL.nilCheckF rfl rfl rfl ?_ | refine TL.nil ?_ | refine T.seqK fun K hK => ?_ | refine T.region ?_ | refine T.condT rfl ?_ | refine T.condF rfl ?_ | refine T.block ?_ | refine T.skip ?_ | refine T.ret ?_ | refine T.exit ?_ | (refine hK _ _ ?_; clear hK K) | clear hK K)
    refine TL.call rfl rfl rfl (Node_ret (some root) p wv way w (IsR.ext hb hroot) hway (fun t' ht' => by cases ht'; exact hf) (by simp only [szO]; omega)) ?_
    rintro _ w1 ⟨hw1, q, rfl, kv, vv, rfl, hk1, hv1⟩
    rw [show atO way (some root) = some (Tr.leaf k v) from hat] at hk1 hv1 ⊢
    rw [show ndO (some (Tr.leaf k v)) = nd from hnd.symm] at hk1 hv1 ⊢
    repeat (first | refine TL.move rfl rfl rfl ?_ | refine TL.assign rfl rfl rfl ?_ | refine TL.nilCheck rfl rfl rfl ?_ | refine TL.fieldAddr rfl rfl rfl ?_ | refine TL.convI rfl rfl rfl ?_ | refine TL.cmpI rfl rfl rfl rfl rfl ?_ | refine TL.arith rfl rfl rfl rfl rfl ?_ | refine TL.lenS rfl rfl rfl ?_ | refine TL.lenStr rfl rfl rfl ?_ | refine TL.not rfl rfl rfl ?_ | refine TL.skipG rfl rfl ?_ | refine TL.pickT rfl rfl rfl rfl ?_ | refine TL.pickF rfl rfl rfl rfl ?_ | refine TL.extract rfl rfl rfl rfl ?_ | refine TL.maxI rfl rfl rfl rfl ?_ | refine TL.minI rfl rfl rfl rfl ?_ | refine TL.nilCheckF rfl rfl rfl ?_ | refine TL.nil ?_ | refine T.seqK fun K hK => ?_ | refine T.region ?_ | refine T.condT rfl ?_ | refine T.condF rfl ?_ | refine T.block ?_ | refine T.skip ?_ | refine T.ret ?_ | refine T.exit ?_ | (refine hK _ _ ?_; clear hK K) | clear hK K)
    refine TL.alloc rfl rfl fun b9 w2 hal => ?_
    have hz : Row w2 b9 (ncs nils nils 0 0 z32 z32) 110 (0, 0) := hal.at_
    refine TL.storeRA (A := []) (C := []) (old := ncs nils nils 0 0 z32 z32) (xs := ncs kv vv nd.h nd.s nd.L nd.R) rfl rfl rfl (by simpa using hz) rfl (by simp [Value.cells]) (by rw [hln]; rfl) (hln _ _) (ncs_one (By.one hk1) (By.one hv1)) fun w3 hg3 h9 hs3 => ?_
    simp only [List.nil_append, List.append_nil] at h9
    have hw13 : Ext w1 w3 := Below.trans hal.below (below_grown hg3 (by rw [hal.num]; exact Nat.le_refl _) hal.below.size)
    have hw3 : Ext w w3 := hw1.trans hw13
    have hk3 := By.ext hk1 hw13
    have hv3 := By.ext hv1 hw13
    have hsz13 := hw13.size
    have hsz1 := hw1.size
    have hB3 : w0.heap.size ≤ w3.heap.size := Nat.le_trans hb.size hw3.size
    clear hal hz hg3 hs3
    have hW3 := hW.ext (Below.trans hb (Below.mono hw3 hb.size))
    repeat (first | refine TL.move rfl rfl rfl ?_ | refine TL.assign rfl rfl rfl ?_ | refine TL.nilCheck rfl rfl rfl ?_ | refine TL.fieldAddr rfl rfl rfl ?_ | refine TL.convI rfl rfl rfl ?_ | refine TL.cmpI rfl rfl rfl rfl rfl ?_ | refine TL.arith rfl rfl rfl rfl rfl ?_ | refine TL.lenS rfl rfl rfl ?_ | refine TL.lenStr rfl rfl rfl ?_ | refine TL.not rfl rfl rfl ?_ | refine TL.skipG rfl rfl ?_ | refine TL.pickT rfl rfl rfl rfl ?_ | refine TL.pickF rfl rfl rfl rfl ?_ | refine TL.extract rfl rfl rfl rfl ?_ | refine TL.maxI rfl rfl rfl rfl ?_ | refine TL.minI rfl rfl rfl rfl ?_ | refine TL.nilCheckF rfl rfl rfl ?_ | refine TL.nil ?_ | refine T.seqK fun K hK => ?_ | refine T.region ?_ | refine T.condT rfl ?_ | refine T.condF rfl ?_ | refine T.block ?_ | refine T.skip ?_ | refine T.ret ?_ | refine T.exit ?_ | (refine hK _ _ ?_; clear hK K) | clear hK K)
    refine T.cond rfl (fun hc => ?_) (fun hc => ?_)
    · have hwe : want = [] := by simpa using hc
      repeat (first | refine TL.move rfl rfl rfl ?_ | refine TL.assign rfl rfl rfl ?_ | refine TL.nilCheck rfl rfl rfl ?_ | refine TL.fieldAddr rfl rfl rfl ?_ | refine TL.convI rfl rfl rfl ?_ | refine TL.cmpI rfl rfl rfl rfl rfl ?_ | refine TL.arith rfl rfl rfl rfl rfl ?_ | refine TL.lenS rfl rfl rfl ?_ | refine TL.lenStr rfl rfl rfl ?_ | refine TL.not rfl rfl rfl ?_ | refine TL.skipG rfl rfl ?_ | refine TL.pickT rfl rfl rfl rfl ?_ | refine TL.pickF rfl rfl rfl rfl ?_ | refine TL.extract rfl rfl rfl rfl ?_ | refine TL.maxI rfl rfl rfl rfl ?_ | refine TL.minI rfl rfl rfl rfl ?_ | refine TL.nilCheckF rfl rfl rfl ?_ | refine TL.nil ?_ | refine T.seqK fun K hK => ?_ | refine T.region ?_ | refine T.condT rfl ?_ | refine T.condF rfl ?_ | refine T.block ?_ | refine T.skip ?_ | refine T.ret ?_ | refine T.exit ?_ | (refine hK _ _ ?_; clear hK K) | clear hK K)
      refine TL.ev rfl rfl (Ev.loadRA (xs := ncs kv vv nd.h nd.s nd.L nd.R) rfl h9 (List.take_of_length_le (Nat.le_of_eq (hln _ _))) (hln _ _)) ?_
      refine TL.call rfl rfl rfl (Hash_ret kv vv nd.k nd.v nd.L nd.R nd.h nd.s w3 hW3 (By.any hk3) (By.any hv3) (by rw [hnd]; exact hok.L) (by rw [hnd]; exact hok.R) (by rw [hnd]; exact hok.k) (by rw [hnd]; exact hok.v) (by rw [hnd]; have := hok.h; omega) (by rw [hnd]; have := hok.s; omega)) ?_
      rintro u4 w4 ⟨hu4, hw34⟩
      rw [hhash] at hu4
      subst hu4
      refine TL.ev rfl rfl (Ev.build (out := tkc nils nils ⟨1, (Tr.leaf k v).hash, [], [], 0, 0⟩) rfl (hid_fill (Tr.hash_len _))) ?_
      have hw4 : Ext w w4 := hw3.trans hw34
      refine TL.push1 (E := tokE) (a := ⟨1, (Tr.leaf k v).hash, [], [], 0, 0⟩) rfl rfl rfl (fun _ => rfl) rfl (fun _ => rfl) rfl (hout.keep hw4) ⟨nils, nils, rfl, By.nilF _ _, By.nilF _ _, hid_ok (Tr.hash_len _)⟩ rfl rfl (by omega) (by unfold maxLen; omega) fun u v' w5 h5 hg5 hv5 => ?_
      repeat (first | refine TL.move rfl rfl rfl ?_ | refine TL.assign rfl rfl rfl ?_ | refine TL.nilCheck rfl rfl rfl ?_ | refine TL.fieldAddr rfl rfl rfl ?_ | refine TL.convI rfl rfl rfl ?_ | refine TL.cmpI rfl rfl rfl rfl rfl ?_ | refine TL.arith rfl rfl rfl rfl rfl ?_ | refine TL.lenS rfl rfl rfl ?_ | refine TL.lenStr rfl rfl rfl ?_ | refine TL.not rfl rfl rfl ?_ | refine TL.skipG rfl rfl ?_ | refine TL.pickT rfl rfl rfl rfl ?_ | refine TL.pickF rfl rfl rfl rfl ?_ | refine TL.extract rfl rfl rfl rfl ?_ | refine TL.maxI rfl rfl rfl rfl ?_ | refine TL.minI rfl rfl rfl rfl ?_ | refine TL.nilCheckF rfl rfl rfl ?_ | refine TL.nil ?_ | refine T.seqK fun K hK => ?_ | refine T.region ?_ | refine T.condT rfl ?_ | refine T.condF rfl ?_ | refine T.block ?_ | refine T.skip ?_ | refine T.ret ?_ | refine T.exit ?_ | (refine hK _ _ ?_; clear hK K) | clear hK K)
      refine ⟨_, rfl, ?_, grown_trans (grown_below hw4 _) hg5, fun k hk => (hv5 k hk).imp id fun h => Nat.le_trans hw4.size h⟩
      rw [piecesT, if_pos hwe]; exact h5
    have hwe : want ≠ [] := by intro h; rw [h] at hc; simp at hc
    repeat (first | refine TL.move rfl rfl rfl ?_ | refine TL.assign rfl rfl rfl ?_ | refine TL.nilCheck rfl rfl rfl ?_ | refine TL.fieldAddr rfl rfl rfl ?_ | refine TL.convI rfl rfl rfl ?_ | refine TL.cmpI rfl rfl rfl rfl rfl ?_ | refine TL.arith rfl rfl rfl rfl rfl ?_ | refine TL.lenS rfl rfl rfl ?_ | refine TL.lenStr rfl rfl rfl ?_ | refine TL.not rfl rfl rfl ?_ | refine TL.skipG rfl rfl ?_ | refine TL.pickT rfl rfl rfl rfl ?_ | refine TL.pickF rfl rfl rfl rfl ?_ | refine TL.extract rfl rfl rfl rfl ?_ | refine TL.maxI rfl rfl rfl rfl ?_ | refine TL.minI rfl rfl rfl rfl ?_ | refine TL.nilCheckF rfl rfl rfl ?_ | refine TL.nil ?_ | refine T.seqK fun K hK => ?_ | refine T.region ?_ | refine T.condT rfl ?_ | refine T.condF rfl ?_ | refine T.block ?_ | refine T.skip ?_ | refine T.ret ?_ | refine T.exit ?_ | (refine hK _ _ ?_; clear hK K) | clear hK K)
    refine TL.loadR (v := .int .i64 (nd.h : Int)) rfl rfl rfl h9 rfl ?_
    refine TL.cmpI (c := true) rfl rfl rfl rfl (by rw [hnd]; rfl) ?_
    repeat (first | refine TL.move rfl rfl rfl ?_ | refine TL.assign rfl rfl rfl ?_ | refine TL.nilCheck rfl rfl rfl ?_ | refine TL.fieldAddr rfl rfl rfl ?_ | refine TL.convI rfl rfl rfl ?_ | refine TL.cmpI rfl rfl rfl rfl rfl ?_ | refine TL.arith rfl rfl rfl rfl rfl ?_ | refine TL.lenS rfl rfl rfl ?_ | refine TL.lenStr rfl rfl rfl ?_ | refine TL.not rfl rfl rfl ?_ | refine TL.skipG rfl rfl ?_ | refine TL.pickT rfl rfl rfl rfl ?_ | refine TL.pickF rfl rfl rfl rfl ?_ | refine TL.extract rfl rfl rfl rfl ?_ | refine TL.maxI rfl rfl rfl rfl ?_ | refine TL.minI rfl rfl rfl rfl ?_ | refine TL.nilCheckF rfl rfl rfl ?_ | refine TL.nil ?_ | refine T.seqK fun K hK => ?_ | refine T.region ?_ | refine T.condT rfl ?_ | refine T.condF rfl ?_ | refine T.block ?_ | refine T.skip ?_ | refine T.ret ?_ | refine T.exit ?_ | (refine hK _ _ ?_; clear hK K) | clear hK K)
    obtain ⟨a1, c1, rfl, _⟩ := hk3.shape
    obtain ⟨a2, c2, rfl, _⟩ := hv3.shape
    refine TL.loadR rfl rfl rfl h9 rfl ?_
    repeat (first | refine TL.move rfl rfl rfl ?_ | refine TL.assign rfl rfl rfl ?_ | refine TL.nilCheck rfl rfl rfl ?_ | refine TL.fieldAddr rfl rfl rfl ?_ | refine TL.convI rfl rfl rfl ?_ | refine TL.cmpI rfl rfl rfl rfl rfl ?_ | refine TL.arith rfl rfl rfl rfl rfl ?_ | refine TL.lenS rfl rfl rfl ?_ | refine TL.lenStr rfl rfl rfl ?_ | refine TL.not rfl rfl rfl ?_ | refine TL.skipG rfl rfl ?_ | refine TL.pickT rfl rfl rfl rfl ?_ | refine TL.pickF rfl rfl rfl rfl ?_ | refine TL.extract rfl rfl rfl rfl ?_ | refine TL.maxI rfl rfl rfl rfl ?_ | refine TL.minI rfl rfl rfl rfl ?_ | refine TL.nilCheckF rfl rfl rfl ?_ | refine TL.nil ?_ | refine T.seqK fun K hK => ?_ | refine T.region ?_ | refine T.condT rfl ?_ | refine T.condF rfl ?_ | refine T.block ?_ | refine T.skip ?_ | refine T.ret ?_ | refine T.exit ?_ | (refine hK _ _ ?_; clear hK K) | clear hK K)
    refine TL.loadR rfl rfl rfl h9 rfl ?_
    refine TL.ev rfl rfl (Ev.build (out := tkc (.slice a1 nd.k.length c1) (.slice a2 nd.v.length c2) ⟨2, z32, k, v, 0, 0⟩) rfl (leaf_fill _ _ _ _ _ _ _ _ rfl rfl k v)) ?_
    have hout3 := hout.keep hw3
    refine TL.push1 (E := tokE) (a := ⟨2, z32, k, v, 0, 0⟩) rfl rfl rfl (fun _ => rfl) rfl (fun _ => rfl) rfl hout3 ⟨_, _, rfl, ?_, ?_, lf_ok k v⟩ rfl rfl (by omega) (by unfold maxLen; omega) fun u v' w5 h5 hg5 hv5 => ?_
    · have := hk3.ltSize; rw [hnd] at this; rw [hnd]
      exact this.sub fun j hj => ⟨fun hh => by have := (hout.blk j hh).2; have h0 := hj.1; omega, hj.2⟩
    · have := hv3.ltSize; rw [hnd] at this; rw [hnd]
      exact this.sub fun j hj => ⟨fun hh => by have := (hout.blk j hh).2; have h0 := hj.1; omega, hj.2⟩
    repeat (first | refine TL.move rfl rfl rfl ?_ | refine TL.assign rfl rfl rfl ?_ | refine TL.nilCheck rfl rfl rfl ?_ | refine TL.fieldAddr rfl rfl rfl ?_ | refine TL.convI rfl rfl rfl ?_ | refine TL.cmpI rfl rfl rfl rfl rfl ?_ | refine TL.arith rfl rfl rfl rfl rfl ?_ | refine TL.lenS rfl rfl rfl ?_ | refine TL.lenStr rfl rfl rfl ?_ | refine TL.not rfl rfl rfl ?_ | refine TL.skipG rfl rfl ?_ | refine TL.pickT rfl rfl rfl rfl ?_ | refine TL.pickF rfl rfl rfl rfl ?_ | refine TL.extract rfl rfl rfl rfl ?_ | refine TL.maxI rfl rfl rfl rfl ?_ | refine TL.minI rfl rfl rfl rfl ?_ | refine TL.nilCheckF rfl rfl rfl ?_ | refine TL.nil ?_ | refine T.seqK fun K hK => ?_ | refine T.region ?_ | refine T.condT rfl ?_ | refine T.condF rfl ?_ | refine T.block ?_ | refine T.skip ?_ | refine T.ret ?_ | refine T.exit ?_ | (refine hK _ _ ?_; clear hK K) | clear hK K)
    refine ⟨_, rfl, ?_, grown_trans (grown_below hw3 _) hg5, fun k hk => (hv5 k hk).imp id fun h => Nat.le_trans hw3.size h⟩
    rw [piecesT, if_neg hwe]; exact h5
  | node l r ihl ihr =>
    intro way wv wantv out want xs w hat hway hway0 hwant hout hxl hwl hwn
    have hb : Below w0.heap.size w0 w := hout.below
    have hfit := Tr.at_fit hat hf
    have hok := Tr.nd_ok hfit.1 (by omega)
    obtain ⟨wa, wc, rfl, _⟩ := hwant.shape
    obtain ⟨nd, hnd⟩ : ∃ nd, nd = (Tr.node l r).nd := ⟨_, rfl⟩
    have hln := fun kv vv => ncs_len kv vv nd.h nd.s nd.L nd.R (by rw [hnd]; exact hok.L) (by rw [hnd]; exact hok.R)
    have hhash : hashF nd.k nd.v nd.h nd.s nd.L nd.R = (Tr.node l r).hash := by rw [hnd]; exact (Tr.hash_eq _).symm
    refine Ret.of_T Tryd.func49 rfl Tryd.ntmps49 Tryd.results49 rfl ?_
    repeat (first | refine TL.move rfl rfl rfl ?_ | refine TL.assign rfl rfl rfl ?_ | refine TL.nilCheck rfl rfl rfl ?_ | refine TL.fieldAddr rfl rfl rfl ?_ | refine TL.convI rfl rfl rfl ?_ | refine TL.cmpI rfl rfl rfl rfl rfl ?_ | refine TL.arith rfl rfl rfl rfl rfl ?_ | refine TL.lenS rfl rfl rfl ?_ | refine TL.lenStr rfl rfl rfl ?_ | refine TL.not rfl rfl rfl ?_ | refine TL.skipG rfl rfl ?_ | refine TL.pickT rfl rfl rfl rfl ?_ | refine TL.pickF rfl rfl rfl rfl ?_ | refine TL.extract rfl rfl rfl rfl ?_ | refine TL.maxI rfl rfl rfl rfl ?_ | refine TL.minI rfl rfl rfl rfl ?_ | refine TL.nilCheckF rfl rfl rfl ?_ | refine TL.nil ?_ | refine T.seqK fun K hK => ?_ | refine T.region ?_ | refine T.condT rfl ?_ | refine T.condF rfl ?_ | refine T.block ?_ | refine T.skip ?_ | refine T.ret ?_ | refine T.exit ?_ | (refine hK _ _ ?_; clear hK K) | clear hK K)
    refine TL.call rfl rfl rfl (Node_ret (some root) p wv way w (IsR.ext hb hroot) hway (fun t' ht' => by cases ht'; exact hf) (by simp only [szO]; omega)) ?_
    rintro _ w1 ⟨hw1, q, rfl, kv, vv, rfl, hk1, hv1⟩
    rw [show atO way (some root) = some (Tr.node l r) from hat] at hk1 hv1 ⊢
    rw [show ndO (some (Tr.node l r)) = nd from hnd.symm] at hk1 hv1 ⊢
    repeat (first | refine TL.move rfl rfl rfl ?_ | refine TL.assign rfl rfl rfl ?_ | refine TL.nilCheck rfl rfl rfl ?_ | refine TL.fieldAddr rfl rfl rfl ?_ | refine TL.convI rfl rfl rfl ?_ | refine TL.cmpI rfl rfl rfl rfl rfl ?_ | refine TL.arith rfl rfl rfl rfl rfl ?_ | refine TL.lenS rfl rfl rfl ?_ | refine TL.lenStr rfl rfl rfl ?_ | refine TL.not rfl rfl rfl ?_ | refine TL.skipG rfl rfl ?_ | refine TL.pickT rfl rfl rfl rfl ?_ | refine TL.pickF rfl rfl rfl rfl ?_ | refine TL.extract rfl rfl rfl rfl ?_ | refine TL.maxI rfl rfl rfl rfl ?_ | refine TL.minI rfl rfl rfl rfl ?_ | refine TL.nilCheckF rfl rfl rfl ?_ | refine TL.nil ?_ | refine T.seqK fun K hK => ?_ | refine T.region ?_ | refine T.condT rfl ?_ | refine T.condF rfl ?_ | refine T.block ?_ | refine T.skip ?_ | refine T.ret ?_ | refine T.exit ?_ | (refine hK _ _ ?_; clear hK K) | clear hK K)
    refine TL.alloc rfl rfl fun b9 w2 hal => ?_
    have hz : Row w2 b9 (ncs nils nils 0 0 z32 z32) 110 (0, 0) := hal.at_
    refine TL.storeRA (A := []) (C := []) (old := ncs nils nils 0 0 z32 z32) (xs := ncs kv vv nd.h nd.s nd.L nd.R) rfl rfl rfl (by simpa using hz) rfl (by simp [Value.cells]) (by rw [hln]; rfl) (hln _ _) (ncs_one (By.one hk1) (By.one hv1)) fun w3 hg3 h9 hs3 => ?_
    simp only [List.nil_append, List.append_nil] at h9
    have hw13 : Ext w1 w3 := Below.trans hal.below (below_grown hg3 (by rw [hal.num]; exact Nat.le_refl _) hal.below.size)
    have hw3 : Ext w w3 := hw1.trans hw13
    have hk3 := By.ext hk1 hw13
    have hv3 := By.ext hv1 hw13
    have hsz13 := hw13.size
    have hsz1 := hw1.size
    have hB3 : w0.heap.size ≤ w3.heap.size := Nat.le_trans hb.size hw3.size
    clear hal hz hg3 hs3
    have hW3 := hW.ext (Below.trans hb (Below.mono hw3 hb.size))
    repeat (first | refine TL.move rfl rfl rfl ?_ | refine TL.assign rfl rfl rfl ?_ | refine TL.nilCheck rfl rfl rfl ?_ | refine TL.fieldAddr rfl rfl rfl ?_ | refine TL.convI rfl rfl rfl ?_ | refine TL.cmpI rfl rfl rfl rfl rfl ?_ | refine TL.arith rfl rfl rfl rfl rfl ?_ | refine TL.lenS rfl rfl rfl ?_ | refine TL.lenStr rfl rfl rfl ?_ | refine TL.not rfl rfl rfl ?_ | refine TL.skipG rfl rfl ?_ | refine TL.pickT rfl rfl rfl rfl ?_ | refine TL.pickF rfl rfl rfl rfl ?_ | refine TL.extract rfl rfl rfl rfl ?_ | refine TL.maxI rfl rfl rfl rfl ?_ | refine TL.minI rfl rfl rfl rfl ?_ | refine TL.nilCheckF rfl rfl rfl ?_ | refine TL.nil ?_ | refine T.seqK fun K hK => ?_ | refine T.region ?_ | refine T.condT rfl ?_ | refine T.condF rfl ?_ | refine T.block ?_ | refine T.skip ?_ | refine T.ret ?_ | refine T.exit ?_ | (refine hK _ _ ?_; clear hK K) | clear hK K)
    refine T.cond rfl (fun hc => ?_) (fun hc => ?_)
    · have hwe : want = [] := by simpa using hc
      repeat (first | refine TL.move rfl rfl rfl ?_ | refine TL.assign rfl rfl rfl ?_ | refine TL.nilCheck rfl rfl rfl ?_ | refine TL.fieldAddr rfl rfl rfl ?_ | refine TL.convI rfl rfl rfl ?_ | refine TL.cmpI rfl rfl rfl rfl rfl ?_ | refine TL.arith rfl rfl rfl rfl rfl ?_ | refine TL.lenS rfl rfl rfl ?_ | refine TL.lenStr rfl rfl rfl ?_ | refine TL.not rfl rfl rfl ?_ | refine TL.skipG rfl rfl ?_ | refine TL.pickT rfl rfl rfl rfl ?_ | refine TL.pickF rfl rfl rfl rfl ?_ | refine TL.extract rfl rfl rfl rfl ?_ | refine TL.maxI rfl rfl rfl rfl ?_ | refine TL.minI rfl rfl rfl rfl ?_ | refine TL.nilCheckF rfl rfl rfl ?_ | refine TL.nil ?_ | refine T.seqK fun K hK => ?_ | refine T.region ?_ | refine T.condT rfl ?_ | refine T.condF rfl ?_ | refine T.block ?_ | refine T.skip ?_ | refine T.ret ?_ | refine T.exit ?_ | (refine hK _ _ ?_; clear hK K) | clear hK K)
      refine TL.ev rfl rfl (Ev.loadRA (xs := ncs kv vv nd.h nd.s nd.L nd.R) rfl h9 (List.take_of_length_le (Nat.le_of_eq (hln _ _))) (hln _ _)) ?_
      refine TL.call rfl rfl rfl (Hash_ret kv vv nd.k nd.v nd.L nd.R nd.h nd.s w3 hW3 (By.any hk3) (By.any hv3) (by rw [hnd]; exact hok.L) (by rw [hnd]; exact hok.R) (by rw [hnd]; exact hok.k) (by rw [hnd]; exact hok.v) (by rw [hnd]; have := hok.h; omega) (by rw [hnd]; have := hok.s; omega)) ?_
      rintro u4 w4 ⟨hu4, hw34⟩
      rw [hhash] at hu4
      subst hu4
      refine TL.ev rfl rfl (Ev.build (out := tkc nils nils ⟨1, (Tr.node l r).hash, [], [], 0, 0⟩) rfl (hid_fill (Tr.hash_len _))) ?_
      have hw4 : Ext w w4 := hw3.trans hw34
      refine TL.push1 (E := tokE) (a := ⟨1, (Tr.node l r).hash, [], [], 0, 0⟩) rfl rfl rfl (fun _ => rfl) rfl (fun _ => rfl) rfl (hout.keep hw4) ⟨nils, nils, rfl, By.nilF _ _, By.nilF _ _, hid_ok (Tr.hash_len _)⟩ rfl rfl (by omega) (by unfold maxLen; omega) fun u v' w5 h5 hg5 hv5 => ?_
      repeat (first | refine TL.move rfl rfl rfl ?_ | refine TL.assign rfl rfl rfl ?_ | refine TL.nilCheck rfl rfl rfl ?_ | refine TL.fieldAddr rfl rfl rfl ?_ | refine TL.convI rfl rfl rfl ?_ | refine TL.cmpI rfl rfl rfl rfl rfl ?_ | refine TL.arith rfl rfl rfl rfl rfl ?_ | refine TL.lenS rfl rfl rfl ?_ | refine TL.lenStr rfl rfl rfl ?_ | refine TL.not rfl rfl rfl ?_ | refine TL.skipG rfl rfl ?_ | refine TL.pickT rfl rfl rfl rfl ?_ | refine TL.pickF rfl rfl rfl rfl ?_ | refine TL.extract rfl rfl rfl rfl ?_ | refine TL.maxI rfl rfl rfl rfl ?_ | refine TL.minI rfl rfl rfl rfl ?_ | refine TL.nilCheckF rfl rfl rfl ?_ | refine TL.nil ?_ | refine T.seqK fun K hK => ?_ | refine T.region ?_ | refine T.condT rfl ?_ | refine T.condF rfl ?_ | refine T.block ?_ | refine T.skip ?_ | refine T.ret ?_ | refine T.exit ?_ | (refine hK _ _ ?_; clear hK K) | clear hK K)
      refine ⟨_, rfl, ?_, grown_trans (grown_below hw4 _) hg5, fun k hk => (hv5 k hk).imp id fun h => Nat.le_trans hw4.size h⟩
      rw [piecesT, if_pos hwe]; exact h5
    have hwe : want ≠ [] := by intro h; rw [h] at hc; simp at hc
    repeat (first | refine TL.move rfl rfl rfl ?_ | refine TL.assign rfl rfl rfl ?_ | refine TL.nilCheck rfl rfl rfl ?_ | refine TL.fieldAddr rfl rfl rfl ?_ | refine TL.convI rfl rfl rfl ?_ | refine TL.cmpI rfl rfl rfl rfl rfl ?_ | refine TL.arith rfl rfl rfl rfl rfl ?_ | refine TL.lenS rfl rfl rfl ?_ | refine TL.lenStr rfl rfl rfl ?_ | refine TL.not rfl rfl rfl ?_ | refine TL.skipG rfl rfl ?_ | refine TL.pickT rfl rfl rfl rfl ?_ | refine TL.pickF rfl rfl rfl rfl ?_ | refine TL.extract rfl rfl rfl rfl ?_ | refine TL.maxI rfl rfl rfl rfl ?_ | refine TL.minI rfl rfl rfl rfl ?_ | refine TL.nilCheckF rfl rfl rfl ?_ | refine TL.nil ?_ | refine T.seqK fun K hK => ?_ | refine T.region ?_ | refine T.condT rfl ?_ | refine T.condF rfl ?_ | refine T.block ?_ | refine T.skip ?_ | refine T.ret ?_ | refine T.exit ?_ | (refine hK _ _ ?_; clear hK K) | clear hK K)
    have hnh : nd.h = (Tr.node l r).ht := by rw [hnd]; rfl
    have hns : nd.s = (Tr.node l r).sz := by rw [hnd]; rfl
    have hnk : nd.k = r.least := by rw [hnd]; rfl
    refine TL.loadR (v := .int .i64 (nd.h : Int)) rfl rfl rfl h9 rfl ?_
    refine TL.cmpI (c := false) rfl rfl rfl rfl (cmpI_eqF (by rw [hnh]; simp only [Tr.ht]; omega)) ?_
    repeat (first | refine TL.move rfl rfl rfl ?_ | refine TL.assign rfl rfl rfl ?_ | refine TL.nilCheck rfl rfl rfl ?_ | refine TL.fieldAddr rfl rfl rfl ?_ | refine TL.convI rfl rfl rfl ?_ | refine TL.cmpI rfl rfl rfl rfl rfl ?_ | refine TL.arith rfl rfl rfl rfl rfl ?_ | refine TL.lenS rfl rfl rfl ?_ | refine TL.lenStr rfl rfl rfl ?_ | refine TL.not rfl rfl rfl ?_ | refine TL.skipG rfl rfl ?_ | refine TL.pickT rfl rfl rfl rfl ?_ | refine TL.pickF rfl rfl rfl rfl ?_ | refine TL.extract rfl rfl rfl rfl ?_ | refine TL.maxI rfl rfl rfl rfl ?_ | refine TL.minI rfl rfl rfl rfl ?_ | refine TL.nilCheckF rfl rfl rfl ?_ | refine TL.nil ?_ | refine T.seqK fun K hK => ?_ | refine T.region ?_ | refine T.condT rfl ?_ | refine T.condF rfl ?_ | refine T.block ?_ | refine T.skip ?_ | refine T.ret ?_ | refine T.exit ?_ | (refine hK _ _ ?_; clear hK K) | clear hK K)
    refine TL.loadR rfl rfl rfl h9 rfl ?_
    have hwant3 : Lsr bytesE (fun k => k < w0.heap.size) w3 (.slice wa want.length wc) want := hwant.ext hw3
    refine TL.call rfl rfl rfl (bsB_ret _ kv want nd.k w3 hwant3.any (By.any hk3) (by omega)) ?_
    rintro _ w4 ⟨rfl, hw34⟩
    rw [hnk]
    have hile := bsI_le want r.least
    obtain ⟨i, hi⟩ : ∃ i, i = bsI want r.least := ⟨_, rfl⟩
    rw [← hi] at hile ⊢
    have h94 := h9.keepA hw34
    have hw4 : Ext w w4 := hw3.trans hw34
    repeat (first | refine TL.move rfl rfl rfl ?_ | refine TL.assign rfl rfl rfl ?_ | refine TL.nilCheck rfl rfl rfl ?_ | refine TL.fieldAddr rfl rfl rfl ?_ | refine TL.convI rfl rfl rfl ?_ | refine TL.cmpI rfl rfl rfl rfl rfl ?_ | refine TL.arith rfl rfl rfl rfl rfl ?_ | refine TL.lenS rfl rfl rfl ?_ | refine TL.lenStr rfl rfl rfl ?_ | refine TL.not rfl rfl rfl ?_ | refine TL.skipG rfl rfl ?_ | refine TL.pickT rfl rfl rfl rfl ?_ | refine TL.pickF rfl rfl rfl rfl ?_ | refine TL.extract rfl rfl rfl rfl ?_ | refine TL.maxI rfl rfl rfl rfl ?_ | refine TL.minI rfl rfl rfl rfl ?_ | refine TL.nilCheckF rfl rfl rfl ?_ | refine TL.nil ?_ | refine T.seqK fun K hK => ?_ | refine T.region ?_ | refine T.condT rfl ?_ | refine T.condF rfl ?_ | refine T.block ?_ | refine T.skip ?_ | refine T.ret ?_ | refine T.exit ?_ | (refine hK _ _ ?_; clear hK K) | clear hK K)
    refine TL.loadR (v := .int .i64 (nd.h : Int)) rfl rfl rfl h94 rfl ?_
    repeat (first | refine TL.move rfl rfl rfl ?_ | refine TL.assign rfl rfl rfl ?_ | refine TL.nilCheck rfl rfl rfl ?_ | refine TL.fieldAddr rfl rfl rfl ?_ | refine TL.convI rfl rfl rfl ?_ | refine TL.cmpI rfl rfl rfl rfl rfl ?_ | refine TL.arith rfl rfl rfl rfl rfl ?_ | refine TL.lenS rfl rfl rfl ?_ | refine TL.lenStr rfl rfl rfl ?_ | refine TL.not rfl rfl rfl ?_ | refine TL.skipG rfl rfl ?_ | refine TL.pickT rfl rfl rfl rfl ?_ | refine TL.pickF rfl rfl rfl rfl ?_ | refine TL.extract rfl rfl rfl rfl ?_ | refine TL.maxI rfl rfl rfl rfl ?_ | refine TL.minI rfl rfl rfl rfl ?_ | refine TL.nilCheckF rfl rfl rfl ?_ | refine TL.nil ?_ | refine T.seqK fun K hK => ?_ | refine T.region ?_ | refine T.condT rfl ?_ | refine T.condF rfl ?_ | refine T.block ?_ | refine T.skip ?_ | refine T.ret ?_ | refine T.exit ?_ | (refine hK _ _ ?_; clear hK K) | clear hK K)
    refine TL.loadR (v := .int .u64 (nd.s : Int)) rfl rfl rfl h94 rfl ?_
    rw [hnh, hns]
    refine TL.ev rfl rfl (Ev.build (out := tkc nils nils ⟨3, z32, [], [], (Tr.node l r).ht, (Tr.node l r).sz⟩) rfl (inner_fill _ _)) ?_
    have hht := Tr.ht_lt (Tr.node l r)
    have hat' : root.at_ (way ++ [false]) = some l := by rw [Tr.at_snoc way false root l r hat]; rfl
    have hat'' : root.at_ (way ++ [true]) = some r := by rw [Tr.at_snoc way true root l r hat]; rfl
    have hszn : (Tr.node l r).sz = l.sz + r.sz := rfl
    have hl0 := Tr.sz_pos l
    have hr0 := Tr.sz_pos r
    refine TL.push1 (E := tokE) (a := ⟨3, z32, [], [], (Tr.node l r).ht, (Tr.node l r).sz⟩) rfl rfl rfl (fun _ => rfl) rfl (fun _ => rfl) rfl (hout.keep hw4) ⟨nils, nils, rfl, By.nilF _ _, By.nilF _ _, rfl, by show (-9223372036854775808 : Int) ≤ ((Tr.node l r).ht : Int); omega, by show ((Tr.node l r).ht : Int) < 9223372036854775808; have := hfit.2; omega, by show (Tr.node l r).sz < 2 ^ 64; have := hfit.2; omega⟩ rfl rfl (by omega) (by unfold maxLen; omega) fun u5 out5 w5 hout5 hg5 hv5 => ?_
    have hgw5 : w.grownBy w5 out.ownBlock := grown_trans (grown_below hw4 _) hg5
    have hbl5 : ∀ k, out5.ownBlock = some k → out.ownBlock = some k ∨ w.heap.size ≤ k := fun k hk => (hv5 k hk).imp id fun h => Nat.le_trans hw4.size h
    have hs5 : w.heap.size ≤ w5.heap.size := hgw5.size
    have hB5 : w0.heap.size ≤ w5.heap.size := Nat.le_trans hb.size hs5
    have hway5 : Rd (fun k => out.ownBlock ≠ some k ∧ k < w.heap.size) w5 1 wv way.length (way.map Value.bool) := hway.ltSize.keep (Same.ofGrown hgw5 fun k hk => hk.1.symm)
    have hwant5 : Lsr bytesE (fun k => k < w0.heap.size) w5 (.slice wa want.length wc) want := hwant.keep (Same.ofGrown hgw5 fun k hk hh => by have := (hout.blk k hh.symm).1; omega)
    clear hg5 hv5 h94 h9 hk3 hv3 hk1 hv1
    obtain ⟨o5a, o5c, rfl⟩ := hout5.shape
    repeat (first | refine TL.move rfl rfl rfl ?_ | refine TL.assign rfl rfl rfl ?_ | refine TL.nilCheck rfl rfl rfl ?_ | refine TL.fieldAddr rfl rfl rfl ?_ | refine TL.convI rfl rfl rfl ?_ | refine TL.cmpI rfl rfl rfl rfl rfl ?_ | refine TL.arith rfl rfl rfl rfl rfl ?_ | refine TL.lenS rfl rfl rfl ?_ | refine TL.lenStr rfl rfl rfl ?_ | refine TL.not rfl rfl rfl ?_ | refine TL.skipG rfl rfl ?_ | refine TL.pickT rfl rfl rfl rfl ?_ | refine TL.pickF rfl rfl rfl rfl ?_ | refine TL.extract rfl rfl rfl rfl ?_ | refine TL.maxI rfl rfl rfl rfl ?_ | refine TL.minI rfl rfl rfl rfl ?_ | refine TL.nilCheckF rfl rfl rfl ?_ | refine TL.nil ?_ | refine T.seqK fun K hK => ?_ | refine T.region ?_ | refine T.condT rfl ?_ | refine T.condF rfl ?_ | refine T.block ?_ | refine T.skip ?_ | refine T.ret ?_ | refine T.exit ?_ | (refine hK _ _ ?_; clear hK K) | clear hK K)
    refine T.drawKG (Kp.pre w5.heap.size way.length (.bool false)) 9 Tryd.mixed (by kernel_rfl) fun ops w6 hb6 hh6 K' hK' => ?_
    have hsz6 : w5.heap.size = w6.heap.size := by rw [hh6]
    simp only [List.take_succ_cons, List.take_zero]
    refine DRG.v (Kp.pre _ _ _) _ rfl (fun w' σ he => Ev.move rfl) ?_
    refine DRG.v (Kp.pre _ _ _) _ rfl (fun w' σ he => Ev.move rfl) ?_
    refine DRG.a (fun u w' => w'.ownsRow w5.heap.size 4 1 u way.length (way.map Value.bool) ∧ (way.length = 0 → u = nils)) (fun u w1 w2 h e => ⟨e.own h.1, h.2⟩) (fun w' σ he hσ => ?_) ?_
    · have hwy := hway5.keep fun k hk _ => (Below.trans hb6 he.below).block k (by have := hk.2; omega)
      refine TL.call rfl rfl rfl (CloneB_ret wv way w' hwy hway0 (by omega)) ?_
      rintro u w'' ⟨h1, h2, h3⟩
      have hle : w5.heap.size ≤ w'.heap.size := by rw [hsz6]; exact he.below.size
      exact TL.nil ⟨Kp.ofExt h1 hle, u, rfl, own_base h2 hle, fun h => h3 (List.eq_nil_of_length_eq_zero h)⟩
    refine DRG.a (fun u w' => ∃ b, u = .slice (some ⟨b, 0, none⟩) 1 1 ∧ Row w' b [.bool false] 4 (0, 0)) (fun u w1 w2 ⟨b, h1, h2⟩ e => ⟨b, h1, e.one h2⟩) (fun w' σ he hσ => ?_) ?_
    · have hle : w5.heap.size ≤ w'.heap.size := by rw [hsz6]; exact he.below.size
      exact TL.buildSlice (vs := [.bool false]) rfl rfl rfl rfl rfl (by simp [Value.oneCell']) rfl fun b w'' hal => TL.nil ⟨Kp.ofExt hal.below hle, _, rfl, b, rfl, hal.at_⟩
    refine DRG.a (fun u w' => w'.ownsRow w5.heap.size 4 1 u (way.length + 1) (way.map Value.bool ++ [.bool false])) (fun u w1 w2 h e => e.own1 (by simp) h) (fun w' σ he hσ => ?_) ?_
    · obtain ⟨g1, g2⟩ := hσ.get 58 rfl
      obtain ⟨b, g3, g4⟩ := hσ.get 59 rfl
      have hle : w5.heap.size ≤ w'.heap.size := by rw [hsz6]; exact he.below.size
      have hrd : Rd (fun _ => True) w' 1 (σ 59) 1 [.bool false] := ⟨_, _, g3, rfl, Nat.le_refl _, by simp [maxLen], (fun h => by cases h), fun _ => ⟨b, 0, rfl, trivial, fun j u hu => by rw [g4.cell, Nat.zero_add]; exact hu⟩⟩
      refine TL.pushK (m := 1) rfl rfl rfl rfl g1 hrd (by simp [Value.oneCell']) rfl (by omega) (by unfold maxLen; omega) hle fun v' w'' h1 h2 h3 h4 => TL.nil ⟨Kp.push g2 g1 h2 h3 hle h1 h4, v', rfl, h1⟩
    refine DRG.v (Kp.pre _ _ _) _ rfl (fun w' σ he => Ev.move rfl) ?_
    refine DRG.v (Kp.pre _ _ _) _ rfl (fun w' σ he => Ev.move rfl) ?_
    refine DRG.v (Kp.pre _ _ _) _ rfl (fun w' σ he => Ev.sliceS (lw := 0) (hw := i) rfl rfl rfl (Nat.zero_le _) (by obtain ⟨_, ⟨_, _, hvv, _, hmc, _⟩, _⟩ := id hwant5; simp only [Value.slice.injEq] at hvv; omega)) ?_
    refine DRG.v (Kp.pre _ _ _) _ rfl (fun w' σ he => Ev.move rfl) ?_
    refine DRG.nil (hK' _ fun w7 σ he hσ => ?_)
    simp only [List.drop_succ_cons, List.drop_zero]
    clear hK' K'
    have hown := hσ.get 60 rfl
    have hE7 : Ext w5 w7 := Below.trans hb6 (Below.mono he.below (by rw [hsz6]; exact Nat.le_refl _))
    have hnw : Rd (fun k => w5.heap.size ≤ k) w7 1 (σ 60) (way ++ [false]).length ((way ++ [false]).map Value.bool) := by
      have := Rd.ofOwn hown (F := fun k => w5.heap.size ≤ k) fun k hk => (hown.lt k hk).1
      simpa using this
    have hout7 := hout5.keep hE7
    have hwant7 : Lsr bytesE (fun k => k < w0.heap.size) w7 _ (want.take i) := (hwant5.ext hE7).take hile
    refine TL.call (vs := [p, σ 60, _, _]) rfl rfl rfl (ihl (way ++ [false]) (σ 60) _ _ (want.take i) _ w7 hat' (hnw.sub fun k hk hh => by have := (hout5.blk k hh).2; omega) (fun h => by simp at h) hwant7 hout7 (by simp; omega) (by simp; omega) (by simp; omega)) ?_
    rintro out8 w8 ⟨hout8, hg8, hv8⟩
    obtain ⟨o8a, o8c, rfl⟩ := hout8.shape
    have hgw8 : w.grownBy w8 out.ownBlock := by
      refine ⟨hg8.os.trans (hE7.os.trans hgw5.os), hg8.tape.trans (hE7.tape.trans hgw5.tape), hg8.output.trans (hE7.output.trans hgw5.output), Nat.le_trans hs5 (Nat.le_trans hE7.size hg8.size), fun k hk hne => ?_⟩
      have e1 : w5.heap[k]? = w.heap[k]? := hgw5.block k hk hne
      have e2 : w7.heap[k]? = w5.heap[k]? := hE7.block k (by omega)
      have e3 : w8.heap[k]? = w7.heap[k]? := hg8.block k (by have := hE7.size; omega) fun hh => by
        rcases hbl5 k hh.symm with h | h
        · exact hne h.symm
        · omega
      rw [e3, e2, e1]
    have hbl8 : ∀ k, (Value.slice o8a (xs ++ [(⟨3, z32, [], [], ↑(Tr.node l r).ht, (Tr.node l r).sz⟩ : Tk)] ++ piecesT l (List.take i want)).length o8c).ownBlock = some k → out.ownBlock = some k ∨ w.heap.size ≤ k := fun k hk => by
      rcases hv8 k hk with h | h
      · exact hbl5 k h
      · exact .inr (Nat.le_trans hs5 (Nat.le_trans hE7.size h))
    have hs8 : w.heap.size ≤ w8.heap.size := hgw8.size
    have hB8 : w0.heap.size ≤ w8.heap.size := Nat.le_trans hb.size hs8
    have hway8 : Rd (fun k => out.ownBlock ≠ some k ∧ k < w.heap.size) w8 1 wv way.length (way.map Value.bool) := hway.ltSize.keep (Same.ofGrown hgw8 fun k hk => hk.1.symm)
    have hwant8 : Lsr bytesE (fun k => k < w0.heap.size) w8 (.slice wa want.length wc) want := hwant.keep (Same.ofGrown hgw8 fun k hk hh => by have := (hout.blk k hh.symm).1; omega)
    have hpl := piecesT_len l (want.take i)
    refine TL.sub (L' := [(65, .slice o8a (xs ++ [(⟨3, z32, [], [], ↑(Tr.node l r).ht, (Tr.node l r).sz⟩ : Tk)] ++ piecesT l (List.take i want)).length o8c), (0, p), (1, wv), (2, .slice wa want.length wc), (11, .int .i64 i)]) ?_ ?_
    · repeat (first | exact Less.nil _ | refine Less.cons rfl ?_)
    clear hσ hown hnw he
    refine TL.assign rfl rfl rfl ?_
    repeat (first | refine TL.move rfl rfl rfl ?_ | refine TL.assign rfl rfl rfl ?_ | refine TL.nilCheck rfl rfl rfl ?_ | refine TL.fieldAddr rfl rfl rfl ?_ | refine TL.convI rfl rfl rfl ?_ | refine TL.cmpI rfl rfl rfl rfl rfl ?_ | refine TL.arith rfl rfl rfl rfl rfl ?_ | refine TL.lenS rfl rfl rfl ?_ | refine TL.lenStr rfl rfl rfl ?_ | refine TL.not rfl rfl rfl ?_ | refine TL.skipG rfl rfl ?_ | refine TL.pickT rfl rfl rfl rfl ?_ | refine TL.pickF rfl rfl rfl rfl ?_ | refine TL.extract rfl rfl rfl rfl ?_ | refine TL.maxI rfl rfl rfl rfl ?_ | refine TL.minI rfl rfl rfl rfl ?_ | refine TL.nilCheckF rfl rfl rfl ?_ | refine TL.nil ?_ | refine T.seqK fun K hK => ?_ | refine T.region ?_ | refine T.condT rfl ?_ | refine T.condF rfl ?_ | refine T.block ?_ | refine T.skip ?_ | refine T.ret ?_ | refine T.exit ?_ | (refine hK _ _ ?_; clear hK K) | clear hK K)
    refine T.drawKG (Kp.pre w8.heap.size way.length (.bool true)) 9 Tryd.mixed (by kernel_rfl) fun ops w6b hb6b hh6b K' hK' => ?_
    have hsz6b : w8.heap.size = w6b.heap.size := by rw [hh6b]
    simp only [List.take_succ_cons, List.take_zero]
    refine DRG.v (Kp.pre _ _ _) _ rfl (fun w' σ he => Ev.move rfl) ?_
    refine DRG.v (Kp.pre _ _ _) _ rfl (fun w' σ he => Ev.move rfl) ?_
    refine DRG.a (fun u w' => w'.ownsRow w8.heap.size 4 1 u way.length (way.map Value.bool) ∧ (way.length = 0 → u = nils)) (fun u w1 w2 h e => ⟨e.own h.1, h.2⟩) (fun w' σ he hσ => ?_) ?_
    · have hwy := hway8.keep fun k hk _ => (Below.trans hb6b he.below).block k (by have := hk.2; omega)
      refine TL.call rfl rfl rfl (CloneB_ret wv way w' hwy hway0 (by omega)) ?_
      rintro u w'' ⟨h1, h2, h3⟩
      have hle : w8.heap.size ≤ w'.heap.size := by rw [hsz6b]; exact he.below.size
      exact TL.nil ⟨Kp.ofExt h1 hle, u, rfl, own_base h2 hle, fun h => h3 (List.eq_nil_of_length_eq_zero h)⟩
    refine DRG.a (fun u w' => ∃ b, u = .slice (some ⟨b, 0, none⟩) 1 1 ∧ Row w' b [.bool true] 4 (0, 0)) (fun u w1 w2 ⟨b, h1, h2⟩ e => ⟨b, h1, e.one h2⟩) (fun w' σ he hσ => ?_) ?_
    · have hle : w8.heap.size ≤ w'.heap.size := by rw [hsz6b]; exact he.below.size
      exact TL.buildSlice (vs := [.bool true]) rfl rfl rfl rfl rfl (by simp [Value.oneCell']) rfl fun b w'' hal => TL.nil ⟨Kp.ofExt hal.below hle, _, rfl, b, rfl, hal.at_⟩
    refine DRG.a (fun u w' => w'.ownsRow w8.heap.size 4 1 u (way.length + 1) (way.map Value.bool ++ [.bool true])) (fun u w1 w2 h e => e.own1 (by simp) h) (fun w' σ he hσ => ?_) ?_
    · obtain ⟨g1, g2⟩ := hσ.get 68 rfl
      obtain ⟨b, g3, g4⟩ := hσ.get 69 rfl
      have hle : w8.heap.size ≤ w'.heap.size := by rw [hsz6b]; exact he.below.size
      have hrd : Rd (fun _ => True) w' 1 (σ 69) 1 [.bool true] := ⟨_, _, g3, rfl, Nat.le_refl _, by simp [maxLen], (fun h => by cases h), fun _ => ⟨b, 0, rfl, trivial, fun j u hu => by rw [g4.cell, Nat.zero_add]; exact hu⟩⟩
      refine TL.pushK (m := 1) rfl rfl rfl rfl g1 hrd (by simp [Value.oneCell']) rfl (by omega) (by unfold maxLen; omega) hle fun v' w'' h1 h2 h3 h4 => TL.nil ⟨Kp.push g2 g1 h2 h3 hle h1 h4, v', rfl, h1⟩
    refine DRG.v (Kp.pre _ _ _) _ rfl (fun w' σ he => Ev.move rfl) ?_
    refine DRG.v (Kp.pre _ _ _) _ rfl (fun w' σ he => Ev.move rfl) ?_
    refine DRG.v (Kp.pre _ _ _) _ rfl (fun w' σ he => Ev.sliceS (lw := i) (hw := want.length) rfl rfl rfl hile (by obtain ⟨_, ⟨_, _, hvv, _, hmc, _⟩, _⟩ := id hwant8; simp only [Value.slice.injEq] at hvv; omega)) ?_
    refine DRG.v (Kp.pre _ _ _) _ rfl (fun w' σ he => Ev.move rfl) ?_
    refine DRG.nil (hK' _ fun w7b σ he hσ => ?_)
    simp only [List.drop_succ_cons, List.drop_zero]
    clear hK' K'
    have hownb := hσ.get 70 rfl
    have hE7b : Ext w8 w7b := Below.trans hb6b (Below.mono he.below (by rw [hsz6b]; exact Nat.le_refl _))
    have hnwb : Rd (fun k => w8.heap.size ≤ k) w7b 1 (σ 70) (way ++ [true]).length ((way ++ [true]).map Value.bool) := by
      have := Rd.ofOwn hownb (F := fun k => w8.heap.size ≤ k) fun k hk => (hownb.lt k hk).1
      simpa using this
    have hout7b := hout8.keep hE7b
    have hwant7b : Lsr bytesE (fun k => k < w0.heap.size) w7b _ (want.drop i) := (hwant8.ext hE7b).drop hile
    refine TL.call (vs := [p, σ 70, _, _]) rfl rfl rfl (ihr (way ++ [true]) (σ 70) _ _ (want.drop i) _ w7b hat'' (hnwb.sub fun k hk hh => by have := (hout8.blk k hh).2; omega) (fun h => by simp at h) hwant7b hout7b (by simp only [List.length_append, List.length_cons, List.length_nil]; omega) (by simp; omega) (by simp; omega)) ?_
    rintro out9 w9 ⟨hout9, hg9, hv9⟩
    repeat (first | refine TL.move rfl rfl rfl ?_ | refine TL.assign rfl rfl rfl ?_ | refine TL.nilCheck rfl rfl rfl ?_ | refine TL.fieldAddr rfl rfl rfl ?_ | refine TL.convI rfl rfl rfl ?_ | refine TL.cmpI rfl rfl rfl rfl rfl ?_ | refine TL.arith rfl rfl rfl rfl rfl ?_ | refine TL.lenS rfl rfl rfl ?_ | refine TL.lenStr rfl rfl rfl ?_ | refine TL.not rfl rfl rfl ?_ | refine TL.skipG rfl rfl ?_ | refine TL.pickT rfl rfl rfl rfl ?_ | refine TL.pickF rfl rfl rfl rfl ?_ | refine TL.extract rfl rfl rfl rfl ?_ | refine TL.maxI rfl rfl rfl rfl ?_ | refine TL.minI rfl rfl rfl rfl ?_ | refine TL.nilCheckF rfl rfl rfl ?_ | refine TL.nil ?_ | refine T.seqK fun K hK => ?_ | refine T.region ?_ | refine T.condT rfl ?_ | refine T.condF rfl ?_ | refine T.block ?_ | refine T.skip ?_ | refine T.ret ?_ | refine T.exit ?_ | (refine hK _ _ ?_; clear hK K) | clear hK K)
    refine ⟨_, rfl, ?_, ?_, fun k hk => ?_⟩
    · rw [piecesT, if_neg hwe, ← hi]
      simpa using hout9
    · refine ⟨hg9.os.trans (hE7b.os.trans hgw8.os), hg9.tape.trans (hE7b.tape.trans hgw8.tape), hg9.output.trans (hE7b.output.trans hgw8.output), Nat.le_trans hs8 (Nat.le_trans hE7b.size hg9.size), fun k hk hne => ?_⟩
      have e1 : w8.heap[k]? = w.heap[k]? := hgw8.block k hk hne
      have e2 : w7b.heap[k]? = w8.heap[k]? := hE7b.block k (by omega)
      have e3 : w9.heap[k]? = w7b.heap[k]? := hg9.block k (by have := hE7b.size; omega) fun hh => by
        rcases hbl8 k hh.symm with h | h
        · exact hne h.symm
        · omega
      rw [e3, e2, e1]
    · rcases hv9 k hk with h | h
      · exact hbl8 k h
      · exact .inr (Nat.le_trans hs8 (Nat.le_trans hE7b.size h))
end Go.Proofs
