/- What bytes.Compare, bytes.Equal and bytes.Clone come to. Conditions: as each theorem says. -/
import Derived.Test.YtflioeagjefkmaaDoorFwE
import Derived.Test.YtflioeagjefkmaaDoorNm
import Derived.Lib.Strings
import Derived.Laws.Externs
import Derived.Lib.SliceRun
set_option linter.all false
namespace Go.Proofs
open Go.Fw Go.RowKit
attribute [local irreducible] TL T TS Ev Ret

/-- What is handed back is new memory that reads as these bytes; nothing else has turned. -/
abbrev NewB (w w' : World) (v : Value) (l : List UInt8) : Prop := Acc w.heap.size w w' 5 1 v l.length (l.map vb)

/-- as texts are compared -/
def cmpL : List UInt8 → List UInt8 → Int
  | [], [] => 0
  | [], _ :: _ => -1
  | _ :: _, [] => 1
  | a :: x, b :: y => if a < b then -1 else if b < a then 1 else cmpL x y

theorem cmp_cons (a b : List UInt8) : Extern.BytealgCompare.cmp (bs a) (bs b) = cmpL a b := by
  have key : ∀ a b : List UInt8, (match (List.range (min a.length b.length)).find? fun i => a[i]! != b[i]! with
      | some i => if a[i]! < b[i]! then (-1 : Int) else 1
      | none => if a.length < b.length then -1 else if a.length > b.length then 1 else 0) = cmpL a b := by
    intro a
    induction a with
    | nil => intro b; cases b <;> simp [cmpL]
    | cons x a ih =>
      intro b
      cases b with
      | nil => simp [cmpL]
      | cons y b =>
        have ih' := ih b
        simp only [List.length_cons, Nat.succ_min_succ, List.range_succ_eq_map, List.find?_cons, List.find?_map]
        by_cases hxy : x = y
        · subst hxy
          have h0 : ((x :: a)[0]! != (x :: b)[0]!) = false := by simp
          rw [h0]
          simp only [cmpL, UInt8.lt_irrefl, if_false]
          rw [← ih']
          have hf : ((fun i => (x :: a)[i]! != (x :: b)[i]!) ∘ Nat.succ) = fun i => a[i]! != b[i]! := by
            funext i; simp
          rw [hf]
          cases (List.range (min a.length b.length)).find? fun i => a[i]! != b[i]! with
          | none => simp
          | some i => simp
        · have h0 : ((x :: a)[0]! != (y :: b)[0]!) = true := by simpa using hxy
          rw [h0]
          simp only [cmpL]
          by_cases hlt : x < y
          · simp [hlt]
          · have : y < x := by
              rcases UInt8.lt_or_lt_of_ne hxy with h | h
              · exact absurd h hlt
              · exact h
            simp [hlt, this]
  have h := key a b
  unfold Extern.BytealgCompare.cmp
  have hs : ∀ l : List UInt8, (bs l).size = l.length := fun l => by simp [bs, ByteArray.size]
  have hg : ∀ (l : List UInt8) (i : Nat), (bs l)[i]! = l[i]! := fun l i => by
    by_cases hi : i < l.length
    · have h1 : i < (bs l).size := by rw [hs]; exact hi
      rw [getElem!_pos (bs l) i h1, getElem!_pos l i hi]; rfl
    · have h1 : ¬ i < (bs l).size := by rw [hs]; exact hi
      rw [getElem!_neg (bs l) i h1, getElem!_neg l i hi]
  simp only [hs, hg]
  exact h

section
variable {P : Program} {w : World}
theorem run_loadBytes (b : Nat) : ∀ (l : List UInt8) (off : Nat) (acc : List UInt8), (∀ (j : Nat) (u : Value), (l.map vb)[j]? = some u → w.cell? ⟨b, off + j, none⟩ = some u) →
    (Extern.Bytes.loadBytes ⟨b, off, none⟩ l.length (bs acc)).run P w = .ok (bs (acc ++ l)) w
  | [], off, acc, _ => by simp [Extern.Bytes.loadBytes]
  | x :: l, off, acc, h => by
    have h0 := h 0 (vb x) (by simp)
    simp only [Nat.add_zero] at h0
    have hadd : (⟨b, off, none⟩ : Addr).add 1 = ⟨b, off + 1, none⟩ := by simp [Addr.add]
    have hpush : (bs acc).push ((x.toNat : Int).toNat.toUInt8) = bs (acc ++ [x]) := by
      simp [bs, ByteArray.push]
    have ih := run_loadBytes b l (off + 1) (acc ++ [x]) (fun j u hu => by
      have := h (j + 1) u (by simpa using hu)
      rw [show off + 1 + j = off + (j + 1) from by omega]; exact this)
    simp only [List.length_cons, Extern.Bytes.loadBytes, Sem.run_bind, load, Sem.run, h0, Result.andThen_ok, vb, hadd, hpush]
    rw [ih]; simp
theorem run_bytesOf {F : Nat → Prop} {v : Value} {l : List UInt8} (h : By F w v l) : (Extern.Bytes.bytesOf v).run P w = .ok (bs l) w := by
  obtain ⟨a, c, rfl, hl, hm, hc, hn, hx⟩ := h
  by_cases h0 : l = []
  · subst h0
    cases a <;> simp [Extern.Bytes.bytesOf, Extern.Bytes.loadBytes] <;> rfl
  · obtain ⟨b, off, rfl, _, hcell⟩ := hx (by simpa using h0)
    have := run_loadBytes (P := P) b l off [] hcell
    have e : (bs [] : ByteArray) = ByteArray.empty := rfl
    rw [e] at this
    simpa [Extern.Bytes.bytesOf] using this
end

theorem Compare_ret {F G : Nat → Prop} (a b : Value) (x y : List UInt8) (w : World) (ha : By F w a x) (hb : By G w b y) : Ret Tryd.prog 42 #[a, b] w fun r w' => r = .int .i64 (cmpL x y) ∧ w' = w := by
  refine Ret.of_T Tryd.func42 rfl Tryd.ntmps42 Tryd.results42 rfl ?_
  repeat (first | refine TL.move rfl rfl rfl ?_ | refine TL.assign rfl rfl rfl ?_ | refine TL.nilCheck rfl rfl rfl ?_ | refine TL.fieldAddr rfl rfl rfl ?_ | refine TL.convI rfl rfl rfl ?_ | refine TL.cmpI rfl rfl rfl rfl rfl ?_ | refine TL.arith rfl rfl rfl rfl rfl ?_ | refine TL.lenS rfl rfl rfl ?_ | refine TL.lenStr rfl rfl rfl ?_ | refine TL.not rfl rfl rfl ?_ | refine TL.skipG rfl rfl ?_ | refine TL.pickT rfl rfl rfl rfl ?_ | refine TL.pickF rfl rfl rfl rfl ?_ | refine TL.extract rfl rfl rfl rfl ?_ | refine TL.maxI rfl rfl rfl rfl ?_ | refine TL.minI rfl rfl rfl rfl ?_ | refine TL.nilCheckF rfl rfl rfl ?_ | refine TL.nil ?_ | refine T.seqK fun K hK => ?_ | (refine T.regionO fun ops => ?_) | refine T.condT rfl ?_ | refine T.condF rfl ?_ | refine T.block ?_ | refine T.skip ?_ | refine T.ret ?_ | refine T.exit ?_ | (refine hK _ _ ?_; clear hK K) | clear hK K | clear ops)
  have hf : Extern.find Tryd.f76 = some Extern.BytealgCompare.compare := by kernel_rfl
  have hn : Extern.findNext Tryd.f76 = none := by kernel_rfl
  have hrun : (Extern.BytealgCompare.compare #[a, b]).run Tryd.prog w = .ok (.int .i64 (cmpL x y)) w := by
    have e : Extern.BytealgCompare.compare #[a, b] = (do pure (goInt (Extern.BytealgCompare.cmp (← Extern.Bytes.bytesOf a) (← Extern.Bytes.bytesOf b)))) := rfl
    simp only [e, Sem.run_bind, run_bytesOf ha, run_bytesOf hb, Result.andThen_ok, cmp_cons]
    simp [goInt]
  refine TL.val (.int .i64 (cmpL x y)) w rfl rfl (fun s hs => ?_) ?_
  · have e1 : s.eval (.tmp 5) = a := hs.eval rfl
    have e2 : s.eval (.tmp 6) = b := hs.eval rfl
    have e3 : s.eval (.func 76) = .func (.func 76) #[] #[] := rfl
    have hc := run_callFunc_extern Tryd.func76 (by kernel_rfl) (by kernel_rfl) hn hf #[a, b] w
    rw [hrun] at hc
    simp [execOp, resolve, Deferred.ofValue, invoke, e1, e2, e3, hc]
  · repeat (first | refine TL.move rfl rfl rfl ?_ | refine TL.assign rfl rfl rfl ?_ | refine TL.nilCheck rfl rfl rfl ?_ | refine TL.fieldAddr rfl rfl rfl ?_ | refine TL.convI rfl rfl rfl ?_ | refine TL.cmpI rfl rfl rfl rfl rfl ?_ | refine TL.arith rfl rfl rfl rfl rfl ?_ | refine TL.lenS rfl rfl rfl ?_ | refine TL.lenStr rfl rfl rfl ?_ | refine TL.not rfl rfl rfl ?_ | refine TL.skipG rfl rfl ?_ | refine TL.pickT rfl rfl rfl rfl ?_ | refine TL.pickF rfl rfl rfl rfl ?_ | refine TL.extract rfl rfl rfl rfl ?_ | refine TL.maxI rfl rfl rfl rfl ?_ | refine TL.minI rfl rfl rfl rfl ?_ | refine TL.nilCheckF rfl rfl rfl ?_ | refine TL.nil ?_ | refine T.seqK fun K hK => ?_ | (refine T.regionO fun ops => ?_) | refine T.condT rfl ?_ | refine T.condF rfl ?_ | refine T.block ?_ | refine T.skip ?_ | refine T.ret ?_ | refine T.exit ?_ | (refine hK _ _ ?_; clear hK K) | clear hK K | clear ops)
    exact ⟨_, rfl, rfl, rfl⟩

theorem bs_toList (l : List UInt8) : (bs l).toList = l := by rw [Lib.toList_data]; rfl
theorem Equal_ret {F G : Nat → Prop} (a b : Value) (x y : List UInt8) (w : World) (ha : By F w a x) (hb : By G w b y) : Ret Tryd.prog 43 #[a, b] w fun r w' => r = .bool (x == y) ∧ w' = w := by
  refine Ret.of_T Tryd.func43 rfl Tryd.ntmps43 Tryd.results43 rfl ?_
  repeat (first | refine TL.move rfl rfl rfl ?_ | refine TL.assign rfl rfl rfl ?_ | refine TL.nilCheck rfl rfl rfl ?_ | refine TL.fieldAddr rfl rfl rfl ?_ | refine TL.convI rfl rfl rfl ?_ | refine TL.cmpI rfl rfl rfl rfl rfl ?_ | refine TL.arith rfl rfl rfl rfl rfl ?_ | refine TL.lenS rfl rfl rfl ?_ | refine TL.lenStr rfl rfl rfl ?_ | refine TL.not rfl rfl rfl ?_ | refine TL.skipG rfl rfl ?_ | refine TL.pickT rfl rfl rfl rfl ?_ | refine TL.pickF rfl rfl rfl rfl ?_ | refine TL.extract rfl rfl rfl rfl ?_ | refine TL.maxI rfl rfl rfl rfl ?_ | refine TL.minI rfl rfl rfl rfl ?_ | refine TL.nilCheckF rfl rfl rfl ?_ | refine TL.nil ?_ | refine T.seqK fun K hK => ?_ | (refine T.regionO fun ops => ?_) | refine T.condT rfl ?_ | refine T.condF rfl ?_ | refine T.block ?_ | refine T.skip ?_ | refine T.ret ?_ | refine T.exit ?_ | (refine hK _ _ ?_; clear hK K) | clear hK K | clear ops)
  refine TL.str rfl rfl rfl ha ?_
  repeat (first | refine TL.move rfl rfl rfl ?_ | refine TL.assign rfl rfl rfl ?_ | refine TL.nilCheck rfl rfl rfl ?_ | refine TL.fieldAddr rfl rfl rfl ?_ | refine TL.convI rfl rfl rfl ?_ | refine TL.cmpI rfl rfl rfl rfl rfl ?_ | refine TL.arith rfl rfl rfl rfl rfl ?_ | refine TL.lenS rfl rfl rfl ?_ | refine TL.lenStr rfl rfl rfl ?_ | refine TL.not rfl rfl rfl ?_ | refine TL.skipG rfl rfl ?_ | refine TL.pickT rfl rfl rfl rfl ?_ | refine TL.pickF rfl rfl rfl rfl ?_ | refine TL.extract rfl rfl rfl rfl ?_ | refine TL.maxI rfl rfl rfl rfl ?_ | refine TL.minI rfl rfl rfl rfl ?_ | refine TL.nilCheckF rfl rfl rfl ?_ | refine TL.nil ?_ | refine T.seqK fun K hK => ?_ | (refine T.regionO fun ops => ?_) | refine T.condT rfl ?_ | refine T.condF rfl ?_ | refine T.block ?_ | refine T.skip ?_ | refine T.ret ?_ | refine T.exit ?_ | (refine hK _ _ ?_; clear hK K) | clear hK K | clear ops)
  refine TL.str rfl rfl rfl hb ?_
  refine TL.eqStr rfl rfl rfl rfl rfl ?_
  repeat (first | refine TL.move rfl rfl rfl ?_ | refine TL.assign rfl rfl rfl ?_ | refine TL.nilCheck rfl rfl rfl ?_ | refine TL.fieldAddr rfl rfl rfl ?_ | refine TL.convI rfl rfl rfl ?_ | refine TL.cmpI rfl rfl rfl rfl rfl ?_ | refine TL.arith rfl rfl rfl rfl rfl ?_ | refine TL.lenS rfl rfl rfl ?_ | refine TL.lenStr rfl rfl rfl ?_ | refine TL.not rfl rfl rfl ?_ | refine TL.skipG rfl rfl ?_ | refine TL.pickT rfl rfl rfl rfl ?_ | refine TL.pickF rfl rfl rfl rfl ?_ | refine TL.extract rfl rfl rfl rfl ?_ | refine TL.maxI rfl rfl rfl rfl ?_ | refine TL.minI rfl rfl rfl rfl ?_ | refine TL.nilCheckF rfl rfl rfl ?_ | refine TL.nil ?_ | refine T.seqK fun K hK => ?_ | (refine T.regionO fun ops => ?_) | refine T.condT rfl ?_ | refine T.condF rfl ?_ | refine T.block ?_ | refine T.skip ?_ | refine T.ret ?_ | refine T.exit ?_ | (refine hK _ _ ?_; clear hK K) | clear hK K | clear ops)
  exact ⟨_, rfl, rfl, rfl⟩

theorem Clone_ret {F : Nat → Prop} (a : Value) (x : List UInt8) (w : World) (ha : By F w a x) (hx : x.length ≤ 2 ^ 40) : Ret Tryd.prog 85 #[a] w fun r w' => NewB w w' r x := by
  obtain ⟨aa, ac, rfl, ha0⟩ := id ha
  refine Ret.of_T Tryd.func85 rfl Tryd.ntmps85 Tryd.results85 rfl ?_
  repeat (first | refine TL.move rfl rfl rfl ?_ | refine TL.assign rfl rfl rfl ?_ | refine TL.nilCheck rfl rfl rfl ?_ | refine TL.fieldAddr rfl rfl rfl ?_ | refine TL.convI rfl rfl rfl ?_ | refine TL.cmpI rfl rfl rfl rfl rfl ?_ | refine TL.arith rfl rfl rfl rfl rfl ?_ | refine TL.lenS rfl rfl rfl ?_ | refine TL.lenStr rfl rfl rfl ?_ | refine TL.not rfl rfl rfl ?_ | refine TL.skipG rfl rfl ?_ | refine TL.pickT rfl rfl rfl rfl ?_ | refine TL.pickF rfl rfl rfl rfl ?_ | refine TL.extract rfl rfl rfl rfl ?_ | refine TL.maxI rfl rfl rfl rfl ?_ | refine TL.minI rfl rfl rfl rfl ?_ | refine TL.nilCheckF rfl rfl rfl ?_ | refine TL.nil ?_ | refine T.seqK fun K hK => ?_ | (refine T.regionO fun ops => ?_) | refine T.condT rfl ?_ | refine T.condF rfl ?_ | refine T.block ?_ | refine T.skip ?_ | refine T.ret ?_ | refine T.exit ?_ | (refine hK _ _ ?_; clear hK K) | clear hK K | clear ops)
  refine TL.eqNil rfl rfl rfl rfl ?_
  repeat (first | refine TL.move rfl rfl rfl ?_ | refine TL.assign rfl rfl rfl ?_ | refine TL.nilCheck rfl rfl rfl ?_ | refine TL.fieldAddr rfl rfl rfl ?_ | refine TL.convI rfl rfl rfl ?_ | refine TL.cmpI rfl rfl rfl rfl rfl ?_ | refine TL.arith rfl rfl rfl rfl rfl ?_ | refine TL.lenS rfl rfl rfl ?_ | refine TL.lenStr rfl rfl rfl ?_ | refine TL.not rfl rfl rfl ?_ | refine TL.skipG rfl rfl ?_ | refine TL.pickT rfl rfl rfl rfl ?_ | refine TL.pickF rfl rfl rfl rfl ?_ | refine TL.extract rfl rfl rfl rfl ?_ | refine TL.maxI rfl rfl rfl rfl ?_ | refine TL.minI rfl rfl rfl rfl ?_ | refine TL.nilCheckF rfl rfl rfl ?_ | refine TL.nil ?_ | refine T.seqK fun K hK => ?_ | (refine T.regionO fun ops => ?_) | refine T.condT rfl ?_ | refine T.condF rfl ?_ | refine T.block ?_ | refine T.skip ?_ | refine T.ret ?_ | refine T.exit ?_ | (refine hK _ _ ?_; clear hK K) | clear hK K | clear ops)
  refine T.cond rfl (fun h => ?_) (fun h => ?_)
  · repeat (first | refine TL.move rfl rfl rfl ?_ | refine TL.assign rfl rfl rfl ?_ | refine TL.nilCheck rfl rfl rfl ?_ | refine TL.fieldAddr rfl rfl rfl ?_ | refine TL.convI rfl rfl rfl ?_ | refine TL.cmpI rfl rfl rfl rfl rfl ?_ | refine TL.arith rfl rfl rfl rfl rfl ?_ | refine TL.lenS rfl rfl rfl ?_ | refine TL.lenStr rfl rfl rfl ?_ | refine TL.not rfl rfl rfl ?_ | refine TL.skipG rfl rfl ?_ | refine TL.pickT rfl rfl rfl rfl ?_ | refine TL.pickF rfl rfl rfl rfl ?_ | refine TL.extract rfl rfl rfl rfl ?_ | refine TL.maxI rfl rfl rfl rfl ?_ | refine TL.minI rfl rfl rfl rfl ?_ | refine TL.nilCheckF rfl rfl rfl ?_ | refine TL.nil ?_ | refine T.seqK fun K hK => ?_ | (refine T.regionO fun ops => ?_) | refine T.condT rfl ?_ | refine T.condF rfl ?_ | refine T.block ?_ | refine T.skip ?_ | refine T.ret ?_ | refine T.exit ?_ | (refine hK _ _ ?_; clear hK K) | clear hK K | clear ops)
    have : aa = none := by simpa using h
    have h1 := ha0.2.2.2.1 this
    have h2 : x = [] := List.eq_nil_of_length_eq_zero (by omega)
    subst h2
    exact ⟨_, rfl, Acc.nil _ _ _⟩
  · repeat (first | refine TL.move rfl rfl rfl ?_ | refine TL.assign rfl rfl rfl ?_ | refine TL.nilCheck rfl rfl rfl ?_ | refine TL.fieldAddr rfl rfl rfl ?_ | refine TL.convI rfl rfl rfl ?_ | refine TL.cmpI rfl rfl rfl rfl rfl ?_ | refine TL.arith rfl rfl rfl rfl rfl ?_ | refine TL.lenS rfl rfl rfl ?_ | refine TL.lenStr rfl rfl rfl ?_ | refine TL.not rfl rfl rfl ?_ | refine TL.skipG rfl rfl ?_ | refine TL.pickT rfl rfl rfl rfl ?_ | refine TL.pickF rfl rfl rfl rfl ?_ | refine TL.extract rfl rfl rfl rfl ?_ | refine TL.maxI rfl rfl rfl rfl ?_ | refine TL.minI rfl rfl rfl rfl ?_ | refine TL.nilCheckF rfl rfl rfl ?_ | refine TL.nil ?_ | refine T.seqK fun K hK => ?_ | (refine T.regionO fun ops => ?_) | refine T.condT rfl ?_ | refine T.condF rfl ?_ | refine T.block ?_ | refine T.skip ?_ | refine T.ret ?_ | refine T.exit ?_ | (refine hK _ _ ?_; clear hK K) | clear hK K | clear ops)
    refine TL.buildSlice rfl rfl rfl rfl rfl (by simp) rfl fun k1 w1 hal => ?_
    have hacc : NewB w w1 _ [] := hal.acc rfl (by simp [maxLen])
    repeat (first | refine TL.move rfl rfl rfl ?_ | refine TL.assign rfl rfl rfl ?_ | refine TL.nilCheck rfl rfl rfl ?_ | refine TL.fieldAddr rfl rfl rfl ?_ | refine TL.convI rfl rfl rfl ?_ | refine TL.cmpI rfl rfl rfl rfl rfl ?_ | refine TL.arith rfl rfl rfl rfl rfl ?_ | refine TL.lenS rfl rfl rfl ?_ | refine TL.lenStr rfl rfl rfl ?_ | refine TL.not rfl rfl rfl ?_ | refine TL.skipG rfl rfl ?_ | refine TL.pickT rfl rfl rfl rfl ?_ | refine TL.pickF rfl rfl rfl rfl ?_ | refine TL.extract rfl rfl rfl rfl ?_ | refine TL.maxI rfl rfl rfl rfl ?_ | refine TL.minI rfl rfl rfl rfl ?_ | refine TL.nilCheckF rfl rfl rfl ?_ | refine TL.nil ?_ | refine T.seqK fun K hK => ?_ | (refine T.regionO fun ops => ?_) | refine T.condT rfl ?_ | refine T.condF rfl ?_ | refine T.block ?_ | refine T.skip ?_ | refine T.ret ?_ | refine T.exit ?_ | (refine hK _ _ ?_; clear hK K) | clear hK K | clear ops)
    refine TL.push rfl rfl rfl rfl hacc (ha.keep (Same.ofBelow hal.below _)) (vb_all _) rfl (by simp; omega) (by simp [maxLen]; omega) fun u1 w2 hacc1 _ _ => ?_
    repeat (first | refine TL.move rfl rfl rfl ?_ | refine TL.assign rfl rfl rfl ?_ | refine TL.nilCheck rfl rfl rfl ?_ | refine TL.fieldAddr rfl rfl rfl ?_ | refine TL.convI rfl rfl rfl ?_ | refine TL.cmpI rfl rfl rfl rfl rfl ?_ | refine TL.arith rfl rfl rfl rfl rfl ?_ | refine TL.lenS rfl rfl rfl ?_ | refine TL.lenStr rfl rfl rfl ?_ | refine TL.not rfl rfl rfl ?_ | refine TL.skipG rfl rfl ?_ | refine TL.pickT rfl rfl rfl rfl ?_ | refine TL.pickF rfl rfl rfl rfl ?_ | refine TL.extract rfl rfl rfl rfl ?_ | refine TL.maxI rfl rfl rfl rfl ?_ | refine TL.minI rfl rfl rfl rfl ?_ | refine TL.nilCheckF rfl rfl rfl ?_ | refine TL.nil ?_ | refine T.seqK fun K hK => ?_ | (refine T.regionO fun ops => ?_) | refine T.condT rfl ?_ | refine T.condF rfl ?_ | refine T.block ?_ | refine T.skip ?_ | refine T.ret ?_ | refine T.exit ?_ | (refine hK _ _ ?_; clear hK K) | clear hK K | clear ops)
    exact ⟨_, rfl, hacc1.toB (by simp)⟩
end Go.Proofs
