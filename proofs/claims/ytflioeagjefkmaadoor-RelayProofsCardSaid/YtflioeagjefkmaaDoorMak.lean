/- What multi.Make and relay.Many come to. Conditions: as each theorem says. -/
import Derived.Test.YtflioeagjefkmaaDoorPcs
set_option linter.all false
namespace Go.Proofs
open Go.Fw Go.RowKit
attribute [local irreducible] TL T TS Ev Ret
theorem piecesT_small : ∀ (t : Tr) (want : List (List UInt8)), small t.leaves → ∀ x ∈ piecesT t want, x.key.length ≤ 1000 ∧ x.val.length ≤ 1000
  | .leaf k v, want, hs, x, hx => by
    have h := hs (k, v) (by simp [Tr.leaves])
    rw [piecesT] at hx
    split at hx
    · simp at hx; subst hx; simp
    · simp at hx; subst hx; simp only at h ⊢; omega
  | .node l r, want, hs, x, hx => by
    have hl : small l.leaves := fun q hq => hs q (by simp [Tr.leaves, hq])
    have hr : small r.leaves := fun q hq => hs q (by simp [Tr.leaves, hq])
    rw [piecesT] at hx
    split at hx
    · simp at hx; subst hx; simp
    · simp only [List.mem_cons, List.mem_append] at hx
      rcases hx with rfl | hx | hx
      · simp
      · exact piecesT_small l _ hl x hx
      · exact piecesT_small r _ hr x hx
theorem makeM_small {o : Option Tr} {keys : List (List UInt8)} (hs : small (lvO o)) : ∀ x ∈ makeM o keys, x.key.length ≤ 1000 ∧ x.val.length ≤ 1000 := by
  cases o with
  | none => intro x hx; simp [makeM] at hx
  | some t => exact piecesT_small t _ hs
theorem makeM_len {o : Option Tr} {keys : List (List UInt8)} : (makeM o keys).length ≤ 2 * szO o := by
  cases o with
  | none => simp [makeM]
  | some t => have := piecesT_len t (wantF (t.leaves.map Prod.fst) keys); simp only [makeM, szO]; omega
theorem wantF_len (ks keys : List (List UInt8)) : (wantF ks keys).length ≤ 2 * keys.length := by
  have h1 := wantL_len ks keys
  have h2 : (sortF (wantL ks keys)).length = (wantL ks keys).length := (List.mergeSort_perm _ _).length_eq
  have h3 := ddA_len (sortF (wantL ks keys)) (sortF (wantL ks keys)).length
  show (ddA _ _).length ≤ _
  omega

set_option maxRecDepth 20000 in
set_option maxHeartbeats 2000000 in
theorem MMake_ret (o : Option Tr) (p kv : Value) (keys : List (List UInt8)) (w : World) (hW : KW w) (ht : IsR w o p) (hk : Lsr bytesE Any w kv keys) (hf : fitO o) (hs : szO o ≤ 2 ^ 30) (hn : keys.length ≤ 2 ^ 30) :
    Ret Tryd.prog 16 #[p, kv] w fun u w' => Ext w w' ∧ Lsr tokE Any w' u (makeM o keys) := by
  obtain ⟨b0, q0, rfl, _⟩ := id ht
  refine Ret.of_T Tryd.func16 rfl Tryd.ntmps16 Tryd.results16 rfl ?_
  repeat (first | refine TL.move rfl rfl rfl ?_ | refine TL.assign rfl rfl rfl ?_ | refine TL.nilCheck rfl rfl rfl ?_ | refine TL.fieldAddr rfl rfl rfl ?_ | refine TL.convI rfl rfl rfl ?_ | refine TL.cmpI rfl rfl rfl rfl rfl ?_ | refine TL.arith rfl rfl rfl rfl rfl ?_ | refine TL.lenS rfl rfl rfl ?_ | refine TL.lenStr rfl rfl rfl ?_ | refine TL.not rfl rfl rfl ?_ | refine TL.skipG rfl rfl ?_ | refine TL.pickT rfl rfl rfl rfl ?_ | refine TL.pickF rfl rfl rfl rfl ?_ | refine TL.extract rfl rfl rfl rfl ?_ | refine TL.maxI rfl rfl rfl rfl ?_ | refine TL.minI rfl rfl rfl rfl ?_ | refine TL.nilCheckF rfl rfl rfl ?_ | refine TL.nil ?_ | refine T.seqK fun K hK => ?_ | refine T.region ?_ | refine T.condT rfl ?_ | refine T.condF rfl ?_ | refine T.block ?_ | refine T.skip ?_ | refine T.ret ?_ | refine T.exit ?_ | (refine hK _ _ ?_; clear hK K) | clear hK K)
  refine TL.eqPtr rfl rfl rfl rfl ?_
  repeat (first | refine TL.move rfl rfl rfl ?_ | refine TL.assign rfl rfl rfl ?_ | refine TL.nilCheck rfl rfl rfl ?_ | refine TL.fieldAddr rfl rfl rfl ?_ | refine TL.convI rfl rfl rfl ?_ | refine TL.cmpI rfl rfl rfl rfl rfl ?_ | refine TL.arith rfl rfl rfl rfl rfl ?_ | refine TL.lenS rfl rfl rfl ?_ | refine TL.lenStr rfl rfl rfl ?_ | refine TL.not rfl rfl rfl ?_ | refine TL.skipG rfl rfl ?_ | refine TL.pickT rfl rfl rfl rfl ?_ | refine TL.pickF rfl rfl rfl rfl ?_ | refine TL.extract rfl rfl rfl rfl ?_ | refine TL.maxI rfl rfl rfl rfl ?_ | refine TL.minI rfl rfl rfl rfl ?_ | refine TL.nilCheckF rfl rfl rfl ?_ | refine TL.nil ?_ | refine T.seqK fun K hK => ?_ | refine T.region ?_ | refine T.condT rfl ?_ | refine T.condF rfl ?_ | refine T.block ?_ | refine T.skip ?_ | refine T.ret ?_ | refine T.exit ?_ | (refine hK _ _ ?_; clear hK K) | clear hK K)
  refine TL.callS rfl rfl rfl (Len_ret o _ w ht (by omega)) ?_
  cases o with
  | none =>
    repeat (first | refine TL.move rfl rfl rfl ?_ | refine TL.assign rfl rfl rfl ?_ | refine TL.nilCheck rfl rfl rfl ?_ | refine TL.fieldAddr rfl rfl rfl ?_ | refine TL.convI rfl rfl rfl ?_ | refine TL.cmpI rfl rfl rfl rfl rfl ?_ | refine TL.arith rfl rfl rfl rfl rfl ?_ | refine TL.lenS rfl rfl rfl ?_ | refine TL.lenStr rfl rfl rfl ?_ | refine TL.not rfl rfl rfl ?_ | refine TL.skipG rfl rfl ?_ | refine TL.pickT rfl rfl rfl rfl ?_ | refine TL.pickF rfl rfl rfl rfl ?_ | refine TL.extract rfl rfl rfl rfl ?_ | refine TL.maxI rfl rfl rfl rfl ?_ | refine TL.minI rfl rfl rfl rfl ?_ | refine TL.nilCheckF rfl rfl rfl ?_ | refine TL.nil ?_ | refine T.seqK fun K hK => ?_ | refine T.region ?_ | refine T.condT rfl ?_ | refine T.condF rfl ?_ | refine T.block ?_ | refine T.skip ?_ | refine T.ret ?_ | refine T.exit ?_ | (refine hK _ _ ?_; clear hK K) | clear hK K)
    exact ⟨_, rfl, Ext.refl _, Lsr.nilF _ _ _⟩
  | some t =>
    have hp := Tr.sz_pos t
    have hsz : t.sz ≤ 2 ^ 30 := hs
    refine TL.cmpI (c := false) rfl rfl rfl rfl (cmpI_eqF (by simp only [szO]; omega)) ?_
    repeat (first | refine TL.move rfl rfl rfl ?_ | refine TL.assign rfl rfl rfl ?_ | refine TL.nilCheck rfl rfl rfl ?_ | refine TL.fieldAddr rfl rfl rfl ?_ | refine TL.convI rfl rfl rfl ?_ | refine TL.cmpI rfl rfl rfl rfl rfl ?_ | refine TL.arith rfl rfl rfl rfl rfl ?_ | refine TL.lenS rfl rfl rfl ?_ | refine TL.lenStr rfl rfl rfl ?_ | refine TL.not rfl rfl rfl ?_ | refine TL.skipG rfl rfl ?_ | refine TL.pickT rfl rfl rfl rfl ?_ | refine TL.pickF rfl rfl rfl rfl ?_ | refine TL.extract rfl rfl rfl rfl ?_ | refine TL.maxI rfl rfl rfl rfl ?_ | refine TL.minI rfl rfl rfl rfl ?_ | refine TL.nilCheckF rfl rfl rfl ?_ | refine TL.nil ?_ | refine T.seqK fun K hK => ?_ | refine T.region ?_ | refine T.condT rfl ?_ | refine T.condF rfl ?_ | refine T.block ?_ | refine T.skip ?_ | refine T.ret ?_ | refine T.exit ?_ | (refine hK _ _ ?_; clear hK K) | clear hK K)
    refine TL.call rfl rfl rfl (wanted_ret (some t) _ kv keys w ht hk hf hs hn) ?_
    rintro wv w1 ⟨hw1, hwant⟩
    refine TL.call rfl rfl rfl (pieces_ret w1 t _ (IsR.ext hw1 ht) (hW.ext hw1) (hf t rfl) hsz t [] nils wv nils (wantF ((lvO (some t)).map Prod.fst) keys) [] w1 rfl ⟨_, _, rfl, rfl, Nat.le_refl _, by decide, fun _ => rfl, fun h => absurd rfl h⟩ (fun _ => rfl) (hwant.lt.sub fun _ h => h.2) (Lst.nil _ _ _ (Below.refl _ _) (Nat.le_refl _) _) (by simp; omega) (by simp; omega) (by have := wantF_len ((lvO (some t)).map Prod.fst) keys; omega)) ?_
    rintro u w2 ⟨hl, _, _⟩
    repeat (first | refine TL.move rfl rfl rfl ?_ | refine TL.assign rfl rfl rfl ?_ | refine TL.nilCheck rfl rfl rfl ?_ | refine TL.fieldAddr rfl rfl rfl ?_ | refine TL.convI rfl rfl rfl ?_ | refine TL.cmpI rfl rfl rfl rfl rfl ?_ | refine TL.arith rfl rfl rfl rfl rfl ?_ | refine TL.lenS rfl rfl rfl ?_ | refine TL.lenStr rfl rfl rfl ?_ | refine TL.not rfl rfl rfl ?_ | refine TL.skipG rfl rfl ?_ | refine TL.pickT rfl rfl rfl rfl ?_ | refine TL.pickF rfl rfl rfl rfl ?_ | refine TL.extract rfl rfl rfl rfl ?_ | refine TL.maxI rfl rfl rfl rfl ?_ | refine TL.minI rfl rfl rfl rfl ?_ | refine TL.nilCheckF rfl rfl rfl ?_ | refine TL.nil ?_ | refine T.seqK fun K hK => ?_ | refine T.region ?_ | refine T.condT rfl ?_ | refine T.condF rfl ?_ | refine T.block ?_ | refine T.skip ?_ | refine T.ret ?_ | refine T.exit ?_ | (refine hK _ _ ?_; clear hK K) | clear hK K)
    exact ⟨_, rfl, hw1.trans hl.below, hl.lsr⟩

set_option maxRecDepth 20000 in
theorem Many_ret (o : Option Tr) (p kv : Value) (keys : List (List UInt8)) (w : World) (hW : KW w) (ht : IsR w o p) (hk : Lsr bytesE Any w kv keys) (hf : fitO o) (hs : szO o ≤ 2 ^ 30) (hn : keys.length ≤ 2 ^ 30) (hsm : small (lvO o)) :
    Ret Tryd.prog 17 #[p, kv] w fun u w' => Ext w w' ∧ B0 w' u (encM (makeM o keys)).1 := by
  refine Ret.of_T Tryd.func17 rfl Tryd.ntmps17 Tryd.results17 rfl ?_
  repeat (first | refine TL.move rfl rfl rfl ?_ | refine TL.assign rfl rfl rfl ?_ | refine TL.nilCheck rfl rfl rfl ?_ | refine TL.fieldAddr rfl rfl rfl ?_ | refine TL.convI rfl rfl rfl ?_ | refine TL.cmpI rfl rfl rfl rfl rfl ?_ | refine TL.arith rfl rfl rfl rfl rfl ?_ | refine TL.lenS rfl rfl rfl ?_ | refine TL.lenStr rfl rfl rfl ?_ | refine TL.not rfl rfl rfl ?_ | refine TL.skipG rfl rfl ?_ | refine TL.pickT rfl rfl rfl rfl ?_ | refine TL.pickF rfl rfl rfl rfl ?_ | refine TL.extract rfl rfl rfl rfl ?_ | refine TL.maxI rfl rfl rfl rfl ?_ | refine TL.minI rfl rfl rfl rfl ?_ | refine TL.nilCheckF rfl rfl rfl ?_ | refine TL.nil ?_ | refine T.seqK fun K hK => ?_ | (refine T.regionO fun ops => ?_) | refine T.condT rfl ?_ | refine T.condF rfl ?_ | refine T.block ?_ | refine T.skip ?_ | refine T.ret ?_ | refine T.exit ?_ | (refine hK _ _ ?_; clear hK K) | clear hK K | clear ops)
  refine TL.call rfl rfl rfl (MMake_ret o p kv keys w hW ht hk hf hs hn) ?_
  rintro l w1 ⟨hw1, hl⟩
  refine TL.call rfl rfl rfl (MEncode_ret l _ w1 hl (by have := makeM_len (o := o) (keys := keys); omega) (makeM_small hsm)) ?_
  rintro _ w2 ⟨hw2, q, rfl, hq⟩
  repeat (first | refine TL.move rfl rfl rfl ?_ | refine TL.assign rfl rfl rfl ?_ | refine TL.nilCheck rfl rfl rfl ?_ | refine TL.fieldAddr rfl rfl rfl ?_ | refine TL.convI rfl rfl rfl ?_ | refine TL.cmpI rfl rfl rfl rfl rfl ?_ | refine TL.arith rfl rfl rfl rfl rfl ?_ | refine TL.lenS rfl rfl rfl ?_ | refine TL.lenStr rfl rfl rfl ?_ | refine TL.not rfl rfl rfl ?_ | refine TL.skipG rfl rfl ?_ | refine TL.pickT rfl rfl rfl rfl ?_ | refine TL.pickF rfl rfl rfl rfl ?_ | refine TL.extract rfl rfl rfl rfl ?_ | refine TL.maxI rfl rfl rfl rfl ?_ | refine TL.minI rfl rfl rfl rfl ?_ | refine TL.nilCheckF rfl rfl rfl ?_ | refine TL.nil ?_ | refine T.seqK fun K hK => ?_ | (refine T.regionO fun ops => ?_) | refine T.condT rfl ?_ | refine T.condF rfl ?_ | refine T.block ?_ | refine T.skip ?_ | refine T.ret ?_ | refine T.exit ?_ | (refine hK _ _ ?_; clear hK K) | clear hK K | clear ops)
  exact ⟨_, rfl, hw1.trans hw2, hq⟩
end Go.Proofs
