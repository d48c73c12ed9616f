/- What multi.wanted comes to. Conditions: as the theorem says. -/
import Derived.Test.YtflioeagjefkmaaDoorBsf
import Derived.Test.YtflioeagjefkmaaDoorSrt
import Derived.Test.YtflioeagjefkmaaDoorGrw
import Derived.Test.YtflioeagjefkmaaDoorTok
set_option linter.all false
namespace Go.Proofs
open Go.Fw Go.RowKit
attribute [local irreducible] TL T TS Ev Ret

/-- which keys tell of one key -/
def wantK (ks : List (List UInt8)) (k : List UInt8) : List (List UInt8) :=
  if bsF ks k = true then [ks.getD (bsI ks k) []] else (if 0 < bsI ks k then [ks.getD (bsI ks k - 1) []] else []) ++ (if bsI ks k < ks.length then [ks.getD (bsI ks k) []] else [])
def wantL (ks keys : List (List UInt8)) : List (List UInt8) := keys.flatMap (wantK ks)
def wantF (ks keys : List (List UInt8)) : List (List UInt8) := ddF (sortF (wantL ks keys))
theorem wantK_len (ks : List (List UInt8)) (k : List UInt8) : (wantK ks k).length ≤ 2 := by
  unfold wantK; split
  · simp
  · split <;> split <;> simp
theorem wantL_len (ks : List (List UInt8)) : ∀ keys : List (List UInt8), (wantL ks keys).length ≤ 2 * keys.length
  | [] => by simp [wantL]
  | k :: keys => by
    have := wantL_len ks keys
    have h := wantK_len ks k
    simp only [wantL, List.flatMap_cons, List.length_append, List.length_cons] at *; omega
theorem wantL_snoc (ks : List (List UInt8)) (a : List (List UInt8)) (k : List UInt8) : wantL ks (a ++ [k]) = wantL ks a ++ wantK ks k := by simp [wantL]

set_option maxRecDepth 20000 in
set_option maxHeartbeats 4000000 in
theorem wanted_ret (o : Option Tr) (p kv : Value) (keys : List (List UInt8)) (w : World) (ht : IsR w o p) (hk : Lsr bytesE Any w kv keys) (hf : fitO o) (hs : szO o ≤ 2 ^ 30) (hn : keys.length ≤ 2 ^ 30) :
    Ret Tryd.prog 50 #[p, kv] w fun u w' => Ext w w' ∧ Lsr bytesE Any w' u (wantF ((lvO o).map Prod.fst) keys) := by
  obtain ⟨ka, kc, rfl, _⟩ := hk.shape
  obtain ⟨kvs, hkr, hkb⟩ := hk.bb
  refine Ret.of_T Tryd.func50 rfl Tryd.ntmps50 Tryd.results50 rfl ?_
  repeat (first | refine TL.move rfl rfl rfl ?_ | refine TL.assign rfl rfl rfl ?_ | refine TL.nilCheck rfl rfl rfl ?_ | refine TL.fieldAddr rfl rfl rfl ?_ | refine TL.convI rfl rfl rfl ?_ | refine TL.cmpI rfl rfl rfl rfl rfl ?_ | refine TL.arith rfl rfl rfl rfl rfl ?_ | refine TL.lenS rfl rfl rfl ?_ | refine TL.lenStr rfl rfl rfl ?_ | refine TL.not rfl rfl rfl ?_ | refine TL.skipG rfl rfl ?_ | refine TL.pickT rfl rfl rfl rfl ?_ | refine TL.pickF rfl rfl rfl rfl ?_ | refine TL.extract rfl rfl rfl rfl ?_ | refine TL.maxI rfl rfl rfl rfl ?_ | refine TL.minI rfl rfl rfl rfl ?_ | refine TL.nilCheckF rfl rfl rfl ?_ | refine TL.nil ?_ | refine T.seqK fun K hK => ?_ | (refine T.regionO fun ops => ?_) | refine T.condT rfl ?_ | refine T.condF rfl ?_ | refine T.block ?_ | refine T.skip ?_ | refine T.ret ?_ | refine T.exit ?_ | (refine hK _ _ ?_; clear hK K) | clear hK K | clear ops)
  refine TL.call rfl rfl rfl (All_ret o p w ht hf (by omega)) ?_
  rintro al w1 ⟨hw1, hl3⟩
  obtain ⟨ps, hps⟩ : ∃ ps, ps = lvO o := ⟨_, rfl⟩
  have hL1 : Lsr pairE (fun k => w.heap.size ≤ k ∧ k < w1.heap.size) w1 al ps := by rw [hps]; exact hl3.lsrG.lt
  have hpl : ps.length ≤ 2 ^ 30 := by rw [hps, ← szO_len]; exact hs
  clear hl3
  obtain ⟨la, lc, rfl, _⟩ := hL1.shape
  have hmap : (ps.map Prod.fst).length = ps.length := by simp
  repeat (first | refine TL.move rfl rfl rfl ?_ | refine TL.assign rfl rfl rfl ?_ | refine TL.nilCheck rfl rfl rfl ?_ | refine TL.fieldAddr rfl rfl rfl ?_ | refine TL.convI rfl rfl rfl ?_ | refine TL.cmpI rfl rfl rfl rfl rfl ?_ | refine TL.arith rfl rfl rfl rfl rfl ?_ | refine TL.lenS rfl rfl rfl ?_ | refine TL.lenStr rfl rfl rfl ?_ | refine TL.not rfl rfl rfl ?_ | refine TL.skipG rfl rfl ?_ | refine TL.pickT rfl rfl rfl rfl ?_ | refine TL.pickF rfl rfl rfl rfl ?_ | refine TL.extract rfl rfl rfl rfl ?_ | refine TL.maxI rfl rfl rfl rfl ?_ | refine TL.minI rfl rfl rfl rfl ?_ | refine TL.nilCheckF rfl rfl rfl ?_ | refine TL.nil ?_ | refine T.seqK fun K hK => ?_ | (refine T.regionO fun ops => ?_) | refine T.condT rfl ?_ | refine T.condF rfl ?_ | refine T.block ?_ | refine T.skip ?_ | refine T.ret ?_ | refine T.exit ?_ | (refine hK _ _ ?_; clear hK K) | clear hK K | clear ops)
  refine T.loop (fun m L w' => ∃ (k : Nat) (ov : Value), Less [(5, ov), (6, .slice la ps.length lc), (13, .slice ka keys.length kc), (14, .int .i64 keys.length), (15, .int .i64 k)] L ∧ Lst bytesE w1.heap.size w1 w' 23 ov (wantL (ps.map Prod.fst) (keys.take k)) ∧ k + m = keys.length) keys.length
    ⟨0, nils, (by repeat (first | exact Less.nil _ | refine Less.cons rfl ?_)), Lst.nil _ _ _ (Below.refl _ _) (Nat.le_refl _) _, by omega⟩ ?_
  rintro m L w2 ⟨k, ov, hL, hov, hkm⟩
  refine T.sub hL ?_
  have hw12 : Ext w1 w2 := hov.below
  obtain ⟨oa, oc, rfl⟩ := hov.shape
  have hwl := wantL_len (ps.map Prod.fst) (keys.take k)
  rw [List.length_take] at hwl
  repeat (first | refine TL.move rfl rfl rfl ?_ | refine TL.assign rfl rfl rfl ?_ | refine TL.nilCheck rfl rfl rfl ?_ | refine TL.fieldAddr rfl rfl rfl ?_ | refine TL.convI rfl rfl rfl ?_ | refine TL.cmpI rfl rfl rfl rfl rfl ?_ | refine TL.arith rfl rfl rfl rfl rfl ?_ | refine TL.lenS rfl rfl rfl ?_ | refine TL.lenStr rfl rfl rfl ?_ | refine TL.not rfl rfl rfl ?_ | refine TL.skipG rfl rfl ?_ | refine TL.pickT rfl rfl rfl rfl ?_ | refine TL.pickF rfl rfl rfl rfl ?_ | refine TL.extract rfl rfl rfl rfl ?_ | refine TL.maxI rfl rfl rfl rfl ?_ | refine TL.minI rfl rfl rfl rfl ?_ | refine TL.nilCheckF rfl rfl rfl ?_ | refine TL.nil ?_ | refine T.seqK fun K hK => ?_ | (refine T.regionO fun ops => ?_) | refine T.condT rfl ?_ | refine T.condF rfl ?_ | refine T.block ?_ | refine T.skip ?_ | refine T.ret ?_ | refine T.exit ?_ | (refine hK _ _ ?_; clear hK K) | clear hK K | clear ops)
  refine T.cond rfl (fun hc => ?_) (fun hc => ?_)
  · have hk' : k < keys.length := by simpa using hc
    obtain ⟨key, hkey⟩ : ∃ key, keys[k]? = some key := ⟨_, List.getElem?_eq_getElem hk'⟩
    obtain ⟨xv, hxv⟩ : ∃ xv, kvs[k]? = some xv := ⟨_, List.getElem?_eq_getElem (by rw [hkb.1]; exact hk')⟩
    have hxb := hkb.2 _ xv key hxv hkey
    obtain ⟨g1, g2⟩ := List.getElem?_eq_some_iff.1 hkey
    have htake : keys.take (k + 1) = keys.take k ++ [key] := by rw [List.take_succ_eq_append_getElem g1, g2]
    repeat (first | refine TL.move rfl rfl rfl ?_ | refine TL.assign rfl rfl rfl ?_ | refine TL.nilCheck rfl rfl rfl ?_ | refine TL.fieldAddr rfl rfl rfl ?_ | refine TL.convI rfl rfl rfl ?_ | refine TL.cmpI rfl rfl rfl rfl rfl ?_ | refine TL.arith rfl rfl rfl rfl rfl ?_ | refine TL.lenS rfl rfl rfl ?_ | refine TL.lenStr rfl rfl rfl ?_ | refine TL.not rfl rfl rfl ?_ | refine TL.skipG rfl rfl ?_ | refine TL.pickT rfl rfl rfl rfl ?_ | refine TL.pickF rfl rfl rfl rfl ?_ | refine TL.extract rfl rfl rfl rfl ?_ | refine TL.maxI rfl rfl rfl rfl ?_ | refine TL.minI rfl rfl rfl rfl ?_ | refine TL.nilCheckF rfl rfl rfl ?_ | refine TL.nil ?_ | refine T.seqK fun K hK => ?_ | (refine T.regionO fun ops => ?_) | refine T.condT rfl ?_ | refine T.condF rfl ?_ | refine T.block ?_ | refine T.skip ?_ | refine T.ret ?_ | refine T.exit ?_ | (refine hK _ _ ?_; clear hK K) | clear hK K | clear ops)
    refine TL.elem1 rfl rfl (fun _ => rfl) rfl rfl rfl (hkr.ext (hw1.trans hw12)) rfl hxv fun pp => ?_
    repeat (first | refine TL.move rfl rfl rfl ?_ | refine TL.assign rfl rfl rfl ?_ | refine TL.nilCheck rfl rfl rfl ?_ | refine TL.fieldAddr rfl rfl rfl ?_ | refine TL.convI rfl rfl rfl ?_ | refine TL.cmpI rfl rfl rfl rfl rfl ?_ | refine TL.arith rfl rfl rfl rfl rfl ?_ | refine TL.lenS rfl rfl rfl ?_ | refine TL.lenStr rfl rfl rfl ?_ | refine TL.not rfl rfl rfl ?_ | refine TL.skipG rfl rfl ?_ | refine TL.pickT rfl rfl rfl rfl ?_ | refine TL.pickF rfl rfl rfl rfl ?_ | refine TL.extract rfl rfl rfl rfl ?_ | refine TL.maxI rfl rfl rfl rfl ?_ | refine TL.minI rfl rfl rfl rfl ?_ | refine TL.nilCheckF rfl rfl rfl ?_ | refine TL.nil ?_ | refine T.seqK fun K hK => ?_ | (refine T.regionO fun ops => ?_) | refine T.condT rfl ?_ | refine T.condF rfl ?_ | refine T.block ?_ | refine T.skip ?_ | refine T.ret ?_ | refine T.exit ?_ | (refine hK _ _ ?_; clear hK K) | clear hK K | clear ops)
    refine TL.call rfl rfl rfl (bsP_ret _ xv ps key w2 (hL1.any.ext hw12) (By.ext hxb (hw1.trans hw12)) (by omega)) ?_
    rintro _ w3 ⟨rfl, hw23⟩
    have hw13 : Ext w1 w3 := hw12.trans hw23
    have hov3 := hov.keep hw23
    have hile := bsI_le (ps.map Prod.fst) key
    obtain ⟨i, hi⟩ : ∃ i, i = bsI (ps.map Prod.fst) key := ⟨_, rfl⟩
    rw [← hi] at hile ⊢
    have hile : i ≤ ps.length := by rw [hmap] at hile; exact hile
    have hfin : ∀ (bv : Value) (w' : World) (L' : Sl) (ad : List (List UInt8)), Less [(5, bv), (6, .slice la ps.length lc), (13, .slice ka keys.length kc), (14, .int .i64 keys.length), (15, .int .i64 ((k + 1 : Nat) : Int))] L' → Lst bytesE w1.heap.size w1 w' 23 bv (wantL (ps.map Prod.fst) (keys.take k) ++ ad) → ad = wantK (ps.map Prod.fst) key →
        ∃ m', m' < m ∧ ∃ (k : Nat) (ov : Value), Less [(5, ov), (6, .slice la ps.length lc), (13, .slice ka keys.length kc), (14, .int .i64 keys.length), (15, .int .i64 k)] L' ∧ Lst bytesE w1.heap.size w1 w' 23 ov (wantL (ps.map Prod.fst) (keys.take k)) ∧ k + m' = keys.length := by
      intro bv w' L' ad hL' hlst had
      refine ⟨m - 1, by omega, k + 1, bv, hL', ?_, by omega⟩
      rw [htake, wantL_snoc, ← had]; exact hlst
    repeat (first | refine TL.move rfl rfl rfl ?_ | refine TL.assign rfl rfl rfl ?_ | refine TL.nilCheck rfl rfl rfl ?_ | refine TL.fieldAddr rfl rfl rfl ?_ | refine TL.convI rfl rfl rfl ?_ | refine TL.cmpI rfl rfl rfl rfl rfl ?_ | refine TL.arith rfl rfl rfl rfl rfl ?_ | refine TL.lenS rfl rfl rfl ?_ | refine TL.lenStr rfl rfl rfl ?_ | refine TL.not rfl rfl rfl ?_ | refine TL.skipG rfl rfl ?_ | refine TL.pickT rfl rfl rfl rfl ?_ | refine TL.pickF rfl rfl rfl rfl ?_ | refine TL.extract rfl rfl rfl rfl ?_ | refine TL.maxI rfl rfl rfl rfl ?_ | refine TL.minI rfl rfl rfl rfl ?_ | refine TL.nilCheckF rfl rfl rfl ?_ | refine TL.nil ?_ | refine T.seqK fun K hK => ?_ | (refine T.regionO fun ops => ?_) | refine T.condT rfl ?_ | refine T.condF rfl ?_ | refine T.block ?_ | refine T.skip ?_ | refine T.ret ?_ | refine T.exit ?_ | (refine hK _ _ ?_; clear hK K) | clear hK K | clear ops)
    refine T.cond rfl (fun hd => ?_) (fun hd => ?_)
    · have hex : i < ps.length := by
        simp only [bsF, ← hi, Bool.and_eq_true, decide_eq_true_eq, hmap] at hd; exact hd.1
      repeat (first | refine TL.move rfl rfl rfl ?_ | refine TL.assign rfl rfl rfl ?_ | refine TL.nilCheck rfl rfl rfl ?_ | refine TL.fieldAddr rfl rfl rfl ?_ | refine TL.convI rfl rfl rfl ?_ | refine TL.cmpI rfl rfl rfl rfl rfl ?_ | refine TL.arith rfl rfl rfl rfl rfl ?_ | refine TL.lenS rfl rfl rfl ?_ | refine TL.lenStr rfl rfl rfl ?_ | refine TL.not rfl rfl rfl ?_ | refine TL.skipG rfl rfl ?_ | refine TL.pickT rfl rfl rfl rfl ?_ | refine TL.pickF rfl rfl rfl rfl ?_ | refine TL.extract rfl rfl rfl rfl ?_ | refine TL.maxI rfl rfl rfl rfl ?_ | refine TL.minI rfl rfl rfl rfl ?_ | refine TL.nilCheckF rfl rfl rfl ?_ | refine TL.nil ?_ | refine T.seqK fun K hK => ?_ | (refine T.regionO fun ops => ?_) | refine T.condT rfl ?_ | refine T.condF rfl ?_ | refine T.block ?_ | refine T.skip ?_ | refine T.ret ?_ | refine T.exit ?_ | (refine hK _ _ ?_; clear hK K) | clear hK K | clear ops)
      obtain ⟨q, hq⟩ : ∃ q, ps[i]? = some q := ⟨_, List.getElem?_eq_getElem hex⟩
      have hgd : (ps.map Prod.fst).getD (i) [] = q.1 := by rw [List.getD_eq_getElem?_getD, List.getElem?_map, hq]; rfl
      refine TL.indexL (E := pairE) rfl rfl rfl rfl rfl rfl (hL1.ext hw13) rfl hq fun b o us _ hus hcell => ?_
      obtain ⟨ku, vu, rfl, hku, hvu⟩ := hus
      repeat (first | refine TL.move rfl rfl rfl ?_ | refine TL.assign rfl rfl rfl ?_ | refine TL.nilCheck rfl rfl rfl ?_ | refine TL.fieldAddr rfl rfl rfl ?_ | refine TL.convI rfl rfl rfl ?_ | refine TL.cmpI rfl rfl rfl rfl rfl ?_ | refine TL.arith rfl rfl rfl rfl rfl ?_ | refine TL.lenS rfl rfl rfl ?_ | refine TL.lenStr rfl rfl rfl ?_ | refine TL.not rfl rfl rfl ?_ | refine TL.skipG rfl rfl ?_ | refine TL.pickT rfl rfl rfl rfl ?_ | refine TL.pickF rfl rfl rfl rfl ?_ | refine TL.extract rfl rfl rfl rfl ?_ | refine TL.maxI rfl rfl rfl rfl ?_ | refine TL.minI rfl rfl rfl rfl ?_ | refine TL.nilCheckF rfl rfl rfl ?_ | refine TL.nil ?_ | refine T.seqK fun K hK => ?_ | (refine T.regionO fun ops => ?_) | refine T.condT rfl ?_ | refine T.condF rfl ?_ | refine T.block ?_ | refine T.skip ?_ | refine T.ret ?_ | refine T.exit ?_ | (refine hK _ _ ?_; clear hK K) | clear hK K | clear ops)
      refine TL.load1 rfl rfl rfl (hcell 0 ku rfl) ?_
      refine TL.buildSlice rfl rfl rfl rfl rfl (by intro u hu; simp only [List.mem_cons, List.not_mem_nil, or_false] at hu; subst hu; exact By.one' hku) rfl fun bb w4a hal => ?_
      have hrd : Rd (· = bb) w4a 1 (.slice (some ⟨bb, 0, none⟩) 1 1) 1 _ := hal.rd rfl (by simp [maxLen])
      have hel : bytesE.rel (fun k => w.heap.size ≤ k ∧ k < w1.heap.size) w4a [ku] q.1 := ⟨_, rfl, By.ext hku hal.below⟩
      refine TL.pushE (E := bytesE) rfl rfl rfl rfl rfl (hov3.keep hal.below) hrd hel (fun j hj hh => by have := (hov3.blk j hh).1; omega) rfl (by omega) (by unfold maxLen; omega) fun bv w4 hl4 _ _ => ?_
      repeat (first | refine TL.move rfl rfl rfl ?_ | refine TL.assign rfl rfl rfl ?_ | refine TL.nilCheck rfl rfl rfl ?_ | refine TL.fieldAddr rfl rfl rfl ?_ | refine TL.convI rfl rfl rfl ?_ | refine TL.cmpI rfl rfl rfl rfl rfl ?_ | refine TL.arith rfl rfl rfl rfl rfl ?_ | refine TL.lenS rfl rfl rfl ?_ | refine TL.lenStr rfl rfl rfl ?_ | refine TL.not rfl rfl rfl ?_ | refine TL.skipG rfl rfl ?_ | refine TL.pickT rfl rfl rfl rfl ?_ | refine TL.pickF rfl rfl rfl rfl ?_ | refine TL.extract rfl rfl rfl rfl ?_ | refine TL.maxI rfl rfl rfl rfl ?_ | refine TL.minI rfl rfl rfl rfl ?_ | refine TL.nilCheckF rfl rfl rfl ?_ | refine TL.nil ?_ | refine T.seqK fun K hK => ?_ | (refine T.regionO fun ops => ?_) | refine T.condT rfl ?_ | refine T.condF rfl ?_ | refine T.block ?_ | refine T.skip ?_ | refine T.ret ?_ | refine T.exit ?_ | (refine hK _ _ ?_; clear hK K) | clear hK K | clear ops)
      refine hfin bv w4 _ _ ?_ hl4 ?_
      · repeat (first | exact Less.nil _ | refine Less.cons rfl ?_)
        refine Less.cons' rfl (by rw [wr_succ (by omega)]) ?_
        repeat (first | exact Less.nil _ | refine Less.cons rfl ?_)
      · rw [wantK, if_pos hd, ← hi, hgd]
    · repeat (first | refine TL.move rfl rfl rfl ?_ | refine TL.assign rfl rfl rfl ?_ | refine TL.nilCheck rfl rfl rfl ?_ | refine TL.fieldAddr rfl rfl rfl ?_ | refine TL.convI rfl rfl rfl ?_ | refine TL.cmpI rfl rfl rfl rfl rfl ?_ | refine TL.arith rfl rfl rfl rfl rfl ?_ | refine TL.lenS rfl rfl rfl ?_ | refine TL.lenStr rfl rfl rfl ?_ | refine TL.not rfl rfl rfl ?_ | refine TL.skipG rfl rfl ?_ | refine TL.pickT rfl rfl rfl rfl ?_ | refine TL.pickF rfl rfl rfl rfl ?_ | refine TL.extract rfl rfl rfl rfl ?_ | refine TL.maxI rfl rfl rfl rfl ?_ | refine TL.minI rfl rfl rfl rfl ?_ | refine TL.nilCheckF rfl rfl rfl ?_ | refine TL.nil ?_ | refine T.seqK fun K hK => ?_ | (refine T.regionO fun ops => ?_) | refine T.condT rfl ?_ | refine T.condF rfl ?_ | refine T.block ?_ | refine T.skip ?_ | refine T.ret ?_ | refine T.exit ?_ | (refine hK _ _ ?_; clear hK K) | clear hK K | clear ops)
      have hmid : ∀ (ad : List (List UInt8)) (bv : Value) (w4 : World) (L' : Sl), Less [(5, bv), (6, .slice la ps.length lc), (9, .int .i64 i), (13, .slice ka keys.length kc), (14, .int .i64 keys.length), (15, .int .i64 k)] L' → Lst bytesE w1.heap.size w1 w4 23 bv (wantL (ps.map Prod.fst) (keys.take k) ++ ad) → ad = (if 0 < i then [(ps.map Prod.fst).getD (i - 1) []] else []) → K L' w4 := by
        intro ad bv w4 L' hL' hl4 had
        have hadl : ad.length ≤ 1 := by rw [had]; split <;> simp
        refine hK _ _ (T.sub hL' ?_)
        clear hK K
        have hw14 : Ext w1 w4 := hl4.below
        obtain ⟨ba, bc, rfl⟩ := hl4.shape
        repeat (first | refine TL.move rfl rfl rfl ?_ | refine TL.assign rfl rfl rfl ?_ | refine TL.nilCheck rfl rfl rfl ?_ | refine TL.fieldAddr rfl rfl rfl ?_ | refine TL.convI rfl rfl rfl ?_ | refine TL.cmpI rfl rfl rfl rfl rfl ?_ | refine TL.arith rfl rfl rfl rfl rfl ?_ | refine TL.lenS rfl rfl rfl ?_ | refine TL.lenStr rfl rfl rfl ?_ | refine TL.not rfl rfl rfl ?_ | refine TL.skipG rfl rfl ?_ | refine TL.pickT rfl rfl rfl rfl ?_ | refine TL.pickF rfl rfl rfl rfl ?_ | refine TL.extract rfl rfl rfl rfl ?_ | refine TL.maxI rfl rfl rfl rfl ?_ | refine TL.minI rfl rfl rfl rfl ?_ | refine TL.nilCheckF rfl rfl rfl ?_ | refine TL.nil ?_ | refine T.seqK fun K hK => ?_ | (refine T.regionO fun ops => ?_) | refine T.condT rfl ?_ | refine T.condF rfl ?_ | refine T.block ?_ | refine T.skip ?_ | refine T.ret ?_ | refine T.exit ?_ | (refine hK _ _ ?_; clear hK K) | clear hK K | clear ops)
        refine T.cond rfl (fun he => ?_) (fun he => ?_)
        · have hex : i < ps.length := by simpa using he
          repeat (first | refine TL.move rfl rfl rfl ?_ | refine TL.assign rfl rfl rfl ?_ | refine TL.nilCheck rfl rfl rfl ?_ | refine TL.fieldAddr rfl rfl rfl ?_ | refine TL.convI rfl rfl rfl ?_ | refine TL.cmpI rfl rfl rfl rfl rfl ?_ | refine TL.arith rfl rfl rfl rfl rfl ?_ | refine TL.lenS rfl rfl rfl ?_ | refine TL.lenStr rfl rfl rfl ?_ | refine TL.not rfl rfl rfl ?_ | refine TL.skipG rfl rfl ?_ | refine TL.pickT rfl rfl rfl rfl ?_ | refine TL.pickF rfl rfl rfl rfl ?_ | refine TL.extract rfl rfl rfl rfl ?_ | refine TL.maxI rfl rfl rfl rfl ?_ | refine TL.minI rfl rfl rfl rfl ?_ | refine TL.nilCheckF rfl rfl rfl ?_ | refine TL.nil ?_ | refine T.seqK fun K hK => ?_ | (refine T.regionO fun ops => ?_) | refine T.condT rfl ?_ | refine T.condF rfl ?_ | refine T.block ?_ | refine T.skip ?_ | refine T.ret ?_ | refine T.exit ?_ | (refine hK _ _ ?_; clear hK K) | clear hK K | clear ops)
          obtain ⟨q, hq⟩ : ∃ q, ps[i]? = some q := ⟨_, List.getElem?_eq_getElem hex⟩
          have hgd : (ps.map Prod.fst).getD (i) [] = q.1 := by rw [List.getD_eq_getElem?_getD, List.getElem?_map, hq]; rfl
          refine TL.indexL (E := pairE) rfl rfl rfl rfl rfl rfl (hL1.ext hw14) rfl hq fun b o us _ hus hcell => ?_
          obtain ⟨ku, vu, rfl, hku, hvu⟩ := hus
          repeat (first | refine TL.move rfl rfl rfl ?_ | refine TL.assign rfl rfl rfl ?_ | refine TL.nilCheck rfl rfl rfl ?_ | refine TL.fieldAddr rfl rfl rfl ?_ | refine TL.convI rfl rfl rfl ?_ | refine TL.cmpI rfl rfl rfl rfl rfl ?_ | refine TL.arith rfl rfl rfl rfl rfl ?_ | refine TL.lenS rfl rfl rfl ?_ | refine TL.lenStr rfl rfl rfl ?_ | refine TL.not rfl rfl rfl ?_ | refine TL.skipG rfl rfl ?_ | refine TL.pickT rfl rfl rfl rfl ?_ | refine TL.pickF rfl rfl rfl rfl ?_ | refine TL.extract rfl rfl rfl rfl ?_ | refine TL.maxI rfl rfl rfl rfl ?_ | refine TL.minI rfl rfl rfl rfl ?_ | refine TL.nilCheckF rfl rfl rfl ?_ | refine TL.nil ?_ | refine T.seqK fun K hK => ?_ | (refine T.regionO fun ops => ?_) | refine T.condT rfl ?_ | refine T.condF rfl ?_ | refine T.block ?_ | refine T.skip ?_ | refine T.ret ?_ | refine T.exit ?_ | (refine hK _ _ ?_; clear hK K) | clear hK K | clear ops)
          refine TL.load1 rfl rfl rfl (hcell 0 ku rfl) ?_
          refine TL.buildSlice rfl rfl rfl rfl rfl (by intro u hu; simp only [List.mem_cons, List.not_mem_nil, or_false] at hu; subst hu; exact By.one' hku) rfl fun bb w5a hal => ?_
          have hrd : Rd (· = bb) w5a 1 (.slice (some ⟨bb, 0, none⟩) 1 1) 1 _ := hal.rd rfl (by simp [maxLen])
          have hel : bytesE.rel (fun k => w.heap.size ≤ k ∧ k < w1.heap.size) w5a [ku] q.1 := ⟨_, rfl, By.ext hku hal.below⟩
          refine TL.pushE (E := bytesE) rfl rfl rfl rfl rfl (hl4.keep hal.below) hrd hel (fun j hj hh => by have := (hl4.blk j hh).1; omega) rfl (by simp only [List.length_append]; omega) (by unfold maxLen; simp only [List.length_append]; omega) fun bv5 w5 hl5 _ _ => ?_
          repeat (first | refine TL.move rfl rfl rfl ?_ | refine TL.assign rfl rfl rfl ?_ | refine TL.nilCheck rfl rfl rfl ?_ | refine TL.fieldAddr rfl rfl rfl ?_ | refine TL.convI rfl rfl rfl ?_ | refine TL.cmpI rfl rfl rfl rfl rfl ?_ | refine TL.arith rfl rfl rfl rfl rfl ?_ | refine TL.lenS rfl rfl rfl ?_ | refine TL.lenStr rfl rfl rfl ?_ | refine TL.not rfl rfl rfl ?_ | refine TL.skipG rfl rfl ?_ | refine TL.pickT rfl rfl rfl rfl ?_ | refine TL.pickF rfl rfl rfl rfl ?_ | refine TL.extract rfl rfl rfl rfl ?_ | refine TL.maxI rfl rfl rfl rfl ?_ | refine TL.minI rfl rfl rfl rfl ?_ | refine TL.nilCheckF rfl rfl rfl ?_ | refine TL.nil ?_ | refine T.seqK fun K hK => ?_ | (refine T.regionO fun ops => ?_) | refine T.condT rfl ?_ | refine T.condF rfl ?_ | refine T.block ?_ | refine T.skip ?_ | refine T.ret ?_ | refine T.exit ?_ | (refine hK _ _ ?_; clear hK K) | clear hK K | clear ops)
          refine hfin bv5 w5 _ (ad ++ [q.1]) ?_ (by rw [← List.append_assoc]; exact hl5) ?_
          · repeat (first | exact Less.nil _ | refine Less.cons rfl ?_)
            refine Less.cons' rfl (by rw [wr_succ (by omega)]) ?_
            repeat (first | exact Less.nil _ | refine Less.cons rfl ?_)
          · rw [wantK, if_neg (by rw [hd]; simp), ← hi, had, hmap, if_pos hex, hgd]
        · have hex : ¬ i < ps.length := by simpa using he
          repeat (first | refine TL.move rfl rfl rfl ?_ | refine TL.assign rfl rfl rfl ?_ | refine TL.nilCheck rfl rfl rfl ?_ | refine TL.fieldAddr rfl rfl rfl ?_ | refine TL.convI rfl rfl rfl ?_ | refine TL.cmpI rfl rfl rfl rfl rfl ?_ | refine TL.arith rfl rfl rfl rfl rfl ?_ | refine TL.lenS rfl rfl rfl ?_ | refine TL.lenStr rfl rfl rfl ?_ | refine TL.not rfl rfl rfl ?_ | refine TL.skipG rfl rfl ?_ | refine TL.pickT rfl rfl rfl rfl ?_ | refine TL.pickF rfl rfl rfl rfl ?_ | refine TL.extract rfl rfl rfl rfl ?_ | refine TL.maxI rfl rfl rfl rfl ?_ | refine TL.minI rfl rfl rfl rfl ?_ | refine TL.nilCheckF rfl rfl rfl ?_ | refine TL.nil ?_ | refine T.seqK fun K hK => ?_ | (refine T.regionO fun ops => ?_) | refine T.condT rfl ?_ | refine T.condF rfl ?_ | refine T.block ?_ | refine T.skip ?_ | refine T.ret ?_ | refine T.exit ?_ | (refine hK _ _ ?_; clear hK K) | clear hK K | clear ops)
          refine hfin _ w4 _ ad ?_ hl4 ?_
          · repeat (first | exact Less.nil _ | refine Less.cons rfl ?_)
            refine Less.cons' rfl (by rw [wr_succ (by omega)]) ?_
            repeat (first | exact Less.nil _ | refine Less.cons rfl ?_)
          · rw [wantK, if_neg (by rw [hd]; simp), ← hi, had, hmap, if_neg hex, List.append_nil]
      clear hK
      refine T.cond rfl (fun he => ?_) (fun he => ?_)
      · have hex : 0 < i := by have := of_decide_eq_true he; omega
        repeat (first | refine TL.move rfl rfl rfl ?_ | refine TL.assign rfl rfl rfl ?_ | refine TL.nilCheck rfl rfl rfl ?_ | refine TL.fieldAddr rfl rfl rfl ?_ | refine TL.convI rfl rfl rfl ?_ | refine TL.cmpI rfl rfl rfl rfl rfl ?_ | refine TL.arith rfl rfl rfl rfl rfl ?_ | refine TL.lenS rfl rfl rfl ?_ | refine TL.lenStr rfl rfl rfl ?_ | refine TL.not rfl rfl rfl ?_ | refine TL.skipG rfl rfl ?_ | refine TL.pickT rfl rfl rfl rfl ?_ | refine TL.pickF rfl rfl rfl rfl ?_ | refine TL.extract rfl rfl rfl rfl ?_ | refine TL.maxI rfl rfl rfl rfl ?_ | refine TL.minI rfl rfl rfl rfl ?_ | refine TL.nilCheckF rfl rfl rfl ?_ | refine TL.nil ?_ | refine T.seqK fun K hK => ?_ | (refine T.regionO fun ops => ?_) | refine T.condT rfl ?_ | refine T.condF rfl ?_ | refine T.block ?_ | refine T.skip ?_ | refine T.ret ?_ | refine T.exit ?_ | (refine hK _ _ ?_; clear hK K) | clear hK K | clear ops)
        refine TL.norm (v' := .int .i64 ((i - 1 : Nat) : Int)) (by rw [wr_pred (by omega) (by omega)]) ?_
        obtain ⟨q, hq⟩ : ∃ q, ps[i - 1]? = some q := ⟨_, List.getElem?_eq_getElem (by omega)⟩
        have hgd : (ps.map Prod.fst).getD (i - 1) [] = q.1 := by rw [List.getD_eq_getElem?_getD, List.getElem?_map, hq]; rfl
        refine TL.indexL (E := pairE) rfl rfl rfl rfl rfl rfl (hL1.ext hw13) rfl hq fun b o us _ hus hcell => ?_
        obtain ⟨ku, vu, rfl, hku, hvu⟩ := hus
        repeat (first | refine TL.move rfl rfl rfl ?_ | refine TL.assign rfl rfl rfl ?_ | refine TL.nilCheck rfl rfl rfl ?_ | refine TL.fieldAddr rfl rfl rfl ?_ | refine TL.convI rfl rfl rfl ?_ | refine TL.cmpI rfl rfl rfl rfl rfl ?_ | refine TL.arith rfl rfl rfl rfl rfl ?_ | refine TL.lenS rfl rfl rfl ?_ | refine TL.lenStr rfl rfl rfl ?_ | refine TL.not rfl rfl rfl ?_ | refine TL.skipG rfl rfl ?_ | refine TL.pickT rfl rfl rfl rfl ?_ | refine TL.pickF rfl rfl rfl rfl ?_ | refine TL.extract rfl rfl rfl rfl ?_ | refine TL.maxI rfl rfl rfl rfl ?_ | refine TL.minI rfl rfl rfl rfl ?_ | refine TL.nilCheckF rfl rfl rfl ?_ | refine TL.nil ?_ | refine T.seqK fun K hK => ?_ | (refine T.regionO fun ops => ?_) | refine T.condT rfl ?_ | refine T.condF rfl ?_ | refine T.block ?_ | refine T.skip ?_ | refine T.ret ?_ | refine T.exit ?_ | (refine hK _ _ ?_; clear hK K) | clear hK K | clear ops)
        refine TL.load1 rfl rfl rfl (hcell 0 ku rfl) ?_
        refine TL.buildSlice rfl rfl rfl rfl rfl (by intro u hu; simp only [List.mem_cons, List.not_mem_nil, or_false] at hu; subst hu; exact By.one' hku) rfl fun bb w4a hal => ?_
        have hrd : Rd (· = bb) w4a 1 (.slice (some ⟨bb, 0, none⟩) 1 1) 1 _ := hal.rd rfl (by simp [maxLen])
        have hel : bytesE.rel (fun k => w.heap.size ≤ k ∧ k < w1.heap.size) w4a [ku] q.1 := ⟨_, rfl, By.ext hku hal.below⟩
        refine TL.pushE (E := bytesE) rfl rfl rfl rfl rfl (hov3.keep hal.below) hrd hel (fun j hj hh => by have := (hov3.blk j hh).1; omega) rfl (by omega) (by unfold maxLen; omega) fun bv w4 hl4 _ _ => ?_
        repeat (first | refine TL.move rfl rfl rfl ?_ | refine TL.assign rfl rfl rfl ?_ | refine TL.nilCheck rfl rfl rfl ?_ | refine TL.fieldAddr rfl rfl rfl ?_ | refine TL.convI rfl rfl rfl ?_ | refine TL.cmpI rfl rfl rfl rfl rfl ?_ | refine TL.arith rfl rfl rfl rfl rfl ?_ | refine TL.lenS rfl rfl rfl ?_ | refine TL.lenStr rfl rfl rfl ?_ | refine TL.not rfl rfl rfl ?_ | refine TL.skipG rfl rfl ?_ | refine TL.pickT rfl rfl rfl rfl ?_ | refine TL.pickF rfl rfl rfl rfl ?_ | refine TL.extract rfl rfl rfl rfl ?_ | refine TL.maxI rfl rfl rfl rfl ?_ | refine TL.minI rfl rfl rfl rfl ?_ | refine TL.nilCheckF rfl rfl rfl ?_ | refine TL.nil ?_ | refine T.seqK fun K hK => ?_ | (refine T.regionO fun ops => ?_) | refine T.condT rfl ?_ | refine T.condF rfl ?_ | refine T.block ?_ | refine T.skip ?_ | refine T.ret ?_ | refine T.exit ?_ | (refine hK _ _ ?_; clear hK K) | clear hK K | clear ops)
        refine hmid [q.1] bv w4 _ (by repeat (first | exact Less.nil _ | refine Less.cons rfl ?_)) hl4 ?_
        rw [if_pos hex, hgd]
      · have hex : ¬ 0 < i := by have := of_decide_eq_false he; omega
        repeat (first | refine TL.move rfl rfl rfl ?_ | refine TL.assign rfl rfl rfl ?_ | refine TL.nilCheck rfl rfl rfl ?_ | refine TL.fieldAddr rfl rfl rfl ?_ | refine TL.convI rfl rfl rfl ?_ | refine TL.cmpI rfl rfl rfl rfl rfl ?_ | refine TL.arith rfl rfl rfl rfl rfl ?_ | refine TL.lenS rfl rfl rfl ?_ | refine TL.lenStr rfl rfl rfl ?_ | refine TL.not rfl rfl rfl ?_ | refine TL.skipG rfl rfl ?_ | refine TL.pickT rfl rfl rfl rfl ?_ | refine TL.pickF rfl rfl rfl rfl ?_ | refine TL.extract rfl rfl rfl rfl ?_ | refine TL.maxI rfl rfl rfl rfl ?_ | refine TL.minI rfl rfl rfl rfl ?_ | refine TL.nilCheckF rfl rfl rfl ?_ | refine TL.nil ?_ | refine T.seqK fun K hK => ?_ | (refine T.regionO fun ops => ?_) | refine T.condT rfl ?_ | refine T.condF rfl ?_ | refine T.block ?_ | refine T.skip ?_ | refine T.ret ?_ | refine T.exit ?_ | (refine hK _ _ ?_; clear hK K) | clear hK K | clear ops)
        refine hmid [] _ w3 _ (by repeat (first | exact Less.nil _ | refine Less.cons rfl ?_)) (by rw [List.append_nil]; exact hov3) ?_
        rw [if_neg hex]
  · have hk' : k = keys.length := by simp at hc; omega
    subst hk'
    repeat (first | refine TL.move rfl rfl rfl ?_ | refine TL.assign rfl rfl rfl ?_ | refine TL.nilCheck rfl rfl rfl ?_ | refine TL.fieldAddr rfl rfl rfl ?_ | refine TL.convI rfl rfl rfl ?_ | refine TL.cmpI rfl rfl rfl rfl rfl ?_ | refine TL.arith rfl rfl rfl rfl rfl ?_ | refine TL.lenS rfl rfl rfl ?_ | refine TL.lenStr rfl rfl rfl ?_ | refine TL.not rfl rfl rfl ?_ | refine TL.skipG rfl rfl ?_ | refine TL.pickT rfl rfl rfl rfl ?_ | refine TL.pickF rfl rfl rfl rfl ?_ | refine TL.extract rfl rfl rfl rfl ?_ | refine TL.maxI rfl rfl rfl rfl ?_ | refine TL.minI rfl rfl rfl rfl ?_ | refine TL.nilCheckF rfl rfl rfl ?_ | refine TL.nil ?_ | refine T.seqK fun K hK => ?_ | (refine T.regionO fun ops => ?_) | refine T.condT rfl ?_ | refine T.condF rfl ?_ | refine T.block ?_ | refine T.skip ?_ | refine T.ret ?_ | refine T.exit ?_ | (refine hK _ _ ?_; clear hK K) | clear hK K | clear ops)
    refine TL.call rfl rfl rfl (Sort_ret w1 _ _ w2 hov (by omega)) ?_
    rintro _ w3 ⟨hw23, hl3⟩
    have hsl : (sortF (wantL (ps.map Prod.fst) (keys.take keys.length))).length = (wantL (ps.map Prod.fst) (keys.take keys.length)).length := (List.mergeSort_perm _ _).length_eq
    repeat (first | refine TL.move rfl rfl rfl ?_ | refine TL.assign rfl rfl rfl ?_ | refine TL.nilCheck rfl rfl rfl ?_ | refine TL.fieldAddr rfl rfl rfl ?_ | refine TL.convI rfl rfl rfl ?_ | refine TL.cmpI rfl rfl rfl rfl rfl ?_ | refine TL.arith rfl rfl rfl rfl rfl ?_ | refine TL.lenS rfl rfl rfl ?_ | refine TL.lenStr rfl rfl rfl ?_ | refine TL.not rfl rfl rfl ?_ | refine TL.skipG rfl rfl ?_ | refine TL.pickT rfl rfl rfl rfl ?_ | refine TL.pickF rfl rfl rfl rfl ?_ | refine TL.extract rfl rfl rfl rfl ?_ | refine TL.maxI rfl rfl rfl rfl ?_ | refine TL.minI rfl rfl rfl rfl ?_ | refine TL.nilCheckF rfl rfl rfl ?_ | refine TL.nil ?_ | refine T.seqK fun K hK => ?_ | (refine T.regionO fun ops => ?_) | refine T.condT rfl ?_ | refine T.condF rfl ?_ | refine T.block ?_ | refine T.skip ?_ | refine T.ret ?_ | refine T.exit ?_ | (refine hK _ _ ?_; clear hK K) | clear hK K | clear ops)
    refine TL.call rfl rfl rfl (Compact_ret w1 _ _ w3 hl3 (by omega)) ?_
    rintro u w4 ⟨hw34, hl4⟩
    repeat (first | refine TL.move rfl rfl rfl ?_ | refine TL.assign rfl rfl rfl ?_ | refine TL.nilCheck rfl rfl rfl ?_ | refine TL.fieldAddr rfl rfl rfl ?_ | refine TL.convI rfl rfl rfl ?_ | refine TL.cmpI rfl rfl rfl rfl rfl ?_ | refine TL.arith rfl rfl rfl rfl rfl ?_ | refine TL.lenS rfl rfl rfl ?_ | refine TL.lenStr rfl rfl rfl ?_ | refine TL.not rfl rfl rfl ?_ | refine TL.skipG rfl rfl ?_ | refine TL.pickT rfl rfl rfl rfl ?_ | refine TL.pickF rfl rfl rfl rfl ?_ | refine TL.extract rfl rfl rfl rfl ?_ | refine TL.maxI rfl rfl rfl rfl ?_ | refine TL.minI rfl rfl rfl rfl ?_ | refine TL.nilCheckF rfl rfl rfl ?_ | refine TL.nil ?_ | refine T.seqK fun K hK => ?_ | (refine T.regionO fun ops => ?_) | refine T.condT rfl ?_ | refine T.condF rfl ?_ | refine T.block ?_ | refine T.skip ?_ | refine T.ret ?_ | refine T.exit ?_ | (refine hK _ _ ?_; clear hK K) | clear hK K | clear ops)
    rw [hps, List.take_length] at hl4
    exact ⟨_, rfl, hw1.trans (Below.trans hw12 (hw23.trans hw34)), hl4⟩
end Go.Proofs
