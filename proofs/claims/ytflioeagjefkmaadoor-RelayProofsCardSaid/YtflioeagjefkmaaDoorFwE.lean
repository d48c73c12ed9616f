/- A frame for walks: regions that draw their order, whose operations but the last ones only read. Conditions: none; it speaks of any program. -/
import Derived.Test.YtflioeagjefkmaaDoorFwD
import Derived.StillTail
set_option linter.all false
namespace Go.Fw
open Go.RowKit

/-- A list of operations that leave the world as it is. -/
def TS (P : Program) (ops : Array Oper) (n : Nat) (L : Sl) (rest : List Oper) (w : World) (N : Sl → Prop) : Prop :=
  ∀ Q a, Fr n L a → (∀ L' a', Fr n L' a' → N L' → Q a') → wpStill P ops w Q rest a

section
variable {P : Program} {ops : Array Oper} {n : Nat} {L : Sl} {rest : List Oper} {w : World} {N : Sl → Prop}
variable {d : Nat} {op : Op} {ty : TypeId} {ps : String} {af : Array Edge}

theorem TS.nil (h : N L) : TS P ops n L [] w N := fun _ _ ha qn => qn _ _ ha h
theorem TS.norm {v v' : Value} {l : List Oper} (h : v = v') (k : TS P ops n ((d, v') :: L) l w N) : TS P ops n ((d, v) :: L) l w N := h ▸ k
theorem TS.splitB {b : Bool} {l : List Oper} (ht : b = true → TS P ops n ((d, .bool true) :: L) l w N) (hf : b = false → TS P ops n ((d, .bool false) :: L) l w N) : TS P ops n ((d, .bool b) :: L) l w N := by
  cases b
  · exact hf rfl
  · exact ht rfl
theorem TS.skipG {g : Nat × Bool} (hg : gd ops L (some g) = some false) (hd : Nat.blt d n = true) (k : TS P ops n ((d, undef) :: L) rest w N) : TS P ops n L (⟨some d, op, ty, ps, af, some g⟩ :: rest) w N := by
  intro Q a ha qn
  unfold wpStill
  rw [gd_wanted ha (o := ⟨some d, op, ty, ps, af, some g⟩) hg]
  simp only [Bool.false_eq_true, if_false]
  exact k Q _ (ha.put hd _) qn
theorem TS.ev {g : Option (Nat × Bool)} {v : Value} (hg : gd ops L g = some true) (hd : Nat.blt d n = true) (h : Ev P n L ⟨some d, op, ty, ps, af, g⟩ v w) (k : TS P ops n ((d, v) :: L) rest w N) :
    TS P ops n L (⟨some d, op, ty, ps, af, g⟩ :: rest) w N := by
  intro Q a ha qn
  unfold wpStill
  rw [gd_wanted ha (o := ⟨some d, op, ty, ps, af, g⟩) hg]
  simp only [if_true, Oper.still, h a ha, Oper.stillUpon_value]
  exact k Q _ (ha.put hd _) qn
/-- a call that leaves the world as it is -/
theorem TS.callV {g : Option (Nat × Bool)} {c : Operand} {f : FuncId} {fs cs : Array Value} [hc : Cal P f] {xs : List Operand} {ts : Array TypeId} {vs : List Value} {v : Value} (hg : gd ops L g = some true) (hd : Nat.blt d n = true)
    (hv : opv L c = some (.func (.func f) fs cs)) (ha : opvs L xs = some vs) (hcall : Ret P f (fs ++ vs.toArray ++ cs) w fun u w' => u = v ∧ w' = w)
    (k : TS P ops n ((d, v) :: L) rest w N) : TS P ops n L (⟨some d, .call ⟨.value c, xs.toArray, ts⟩, ty, ps, af, g⟩ :: rest) w N := by
  obtain ⟨fn, hf, hb, hn⟩ := hc.out
  intro Q s hs qn
  unfold wpStill
  rw [gd_wanted hs (o := ⟨some d, .call ⟨.value c, xs.toArray, ts⟩, ty, ps, af, g⟩) hg]
  have hrun : (execOp s.eval ⟨some d, .call ⟨.value c, xs.toArray, ts⟩, ty, ps, af, g⟩).run P w = .ok (.enter f (fs ++ vs.toArray ++ cs)) w := by
    have hn' : ¬ fn.name = "runtime.NumGoroutine" := by simpa using hn
    have hb' : ¬ fn.body = none := fun h => by simp [h] at hb
    simp [execOp, resolve, Deferred.ofValue, invoke, callFunc, hs.eval hv, opvs_eval hs ha, hf, hb', hn']
  simp only [if_true, Oper.still, hrun, Oper.stillUpon]
  refine ⟨trivial, v, Calls.mono hcall fun e w' ⟨u, he, hu, hw⟩ => by subst hu; exact ⟨he, hw⟩, ?_⟩
  exact k Q _ (hs.put hd _) qn
theorem TS.call {g : Option (Nat × Bool)} {f : FuncId} [hc : Cal P f] {xs : List Operand} {ts : Array TypeId} {vs : List Value} {v : Value} (hg : gd ops L g = some true) (hd : Nat.blt d n = true)
    (ha : opvs L xs = some vs) (hcall : Ret P f vs.toArray w fun u w' => u = v ∧ w' = w)
    (k : TS P ops n ((d, v) :: L) rest w N) : TS P ops n L (⟨some d, .call ⟨.value (.func f), xs.toArray, ts⟩, ty, ps, af, g⟩ :: rest) w N :=
  TS.callV hg hd (c := .func f) (fs := #[]) (cs := #[]) rfl ha (by simpa using hcall) k
end

section
variable {P : Program} {n : Nat} {N : Sl → World → Prop} {X : Nat → Sl → World → Prop} {R : Sl → World → Prop} {L : Sl} {w : World}

/-- A region that draws, all of whose operations only read. -/
theorem T.draw {i : Nat} {l : List Oper} (hm : P.follows .mixedOrders = true) (hB : Region.lexB .any l.toArray = true)
    (h : ∀ ops w', Below w.heap.size w w' → w'.heap = w.heap → TS P ops n L l w' fun L' => N L' w') : T P n N X R L (.region i l.toArray true) w :=
  fun _ a ha qn _ _ => wp_region_still_lit hm hB (h _ _ (drewBelow w _) rfl _ a ha fun _ _ f k => qn _ _ _ f k)

/-- A region that draws, the first m of whose operations only read; the last ones are forced. -/
theorem T.drawTail (m : Nat) {i : Nat} {l : List Oper} (hm : P.follows .mixedOrders = true) (hB : Region.lexTailB .any l.toArray m = true)
    (h : ∀ ops w', Below w.heap.size w w' → w'.heap = w.heap → ∀ K : Sl → Prop, (∀ L', TL P ops n L' (l.drop m) w' N → K L') → TS P ops n L (l.take m) w' K) : T P n N X R L (.region i l.toArray true) w :=
  fun Q a ha qn _ _ => by
    exact wp_region_still_tail m hm hB (h _ _ (drewBelow w _) rfl _ (fun _ k => k) _ a ha fun _ _ f k => k Q _ f qn)
end
end Go.Fw

namespace Go.Fw
open Go.RowKit
section
variable {P : Program} {n : Nat} {N : Sl → World → Prop} {X : Nat → Sl → World → Prop} {R : Sl → World → Prop} {L : Sl} {w : World}
/-- as T.draw, where operations are guarded -/
theorem T.drawG {i : Nat} {l : List Oper} (hm : P.follows .mixedOrders = true) (hB : Region.lexB .any l.toArray = true)
    (h : ∀ w', Below w.heap.size w w' → w'.heap = w.heap → TS P l.toArray n L l w' fun L' => N L' w') : T P n N X R L (.region i l.toArray true) w :=
  fun _ a ha qn _ _ => wp_region_still_lit hm hB (h _ (drewBelow w _) rfl _ a ha fun _ _ f k => qn _ _ _ f k)
end
end Go.Fw

namespace Go.Fw
open Go.RowKit
/-- What the result slots come to, those that lie in memory too. -/
def ResV (P : Program) (n : Nat) (rs : List ResultVar) (L : Sl) (w : World) (v : Value) : Prop := ∀ (fn : Func) (a : Act), fn.results = rs.toArray → Fr n L a → (results fn a.tmps).run P w = .ok v w

theorem ResV.of {P : Program} {n : Nat} {rs : List ResultVar} {L : Sl} {w : World} {v : Value} (h : resv rs L = some v) : ResV P n rs L w v := fun _ _ hr ha => run_results hr ha h

theorem run_loadA {P : Program} {t : TypeId} (ht : Ag P t true) {sz by_ : Nat} {z : Value} (hi : Inf P t sz by_ z) {w : World} {b o : Nat} {xs : List Value} (hl : xs.length = sz) (hc : ∀ j u, xs[j]? = some u → w.cell? ⟨b, o + j, none⟩ = some u) :
    (loadVar t ⟨b, o, none⟩).run P w = .ok (.agg xs.toArray) w := by
  obtain ⟨td, hu, hs⟩ := ht.get
  obtain ⟨i, hi, hsz, _, _⟩ := hi.out
  have hload : (loadCells ⟨b, o, none⟩ xs.length).run P w = .ok xs.toArray w := run_loadCells_list (P := P) w _ xs fun j u hu => by
    have hadd : (⟨b, o, none⟩ : Addr).add j = ⟨b, o + j, none⟩ := by unfold Addr.add; split <;> simp_all
    rw [hadd]; exact hc j u hu
  have hsz' : i.size = xs.length := by rw [hsz, hl]
  simp [loadVar, run_isAgg hu, hs, sizeOf, typeInfo, hi, hsz', hload]
theorem run_load1 {P : Program} {t : TypeId} (ht : Ag P t false) {w : World} {b o : Nat} {v : Value} (hc : w.cell? ⟨b, o, none⟩ = some v) : (loadVar t ⟨b, o, none⟩).run P w = .ok v w := by
  obtain ⟨td, hu, hs⟩ := ht.get
  simp [loadVar, run_isAgg hu, hs, load, Sem.run, hc]

theorem ResV.cellA {P : Program} {n : Nat} {t : Tmp} {ty : TypeId} [ht : Ag P ty true] {sz by_ : Nat} {z : Value} [hi : Inf P ty sz by_ z] {L : Sl} {w : World} {b : Nat} {xs : List Value} (h : lk L t = some (.pointer (some ⟨b, 0, none⟩))) (hl : xs.length = sz)
    (hc : ∀ j u, xs[j]? = some u → w.cell? ⟨b, 0 + j, none⟩ = some u) : ResV P n [.cell t ty] L w (.agg xs.toArray) := by
  intro fn a hr ha
  have := ha.slot t _ h
  simp [results, hr, this, asAddr, run_loadA ht hi hl hc]
theorem ResV.cellA1 {P : Program} {n : Nat} {t u : Tmp} {ty : TypeId} [ht : Ag P ty true] {sz by_ : Nat} {z : Value} [hi : Inf P ty sz by_ z] {L : Sl} {w : World} {b : Nat} {xs : List Value} {v : Value} (h : lk L t = some (.pointer (some ⟨b, 0, none⟩))) (hl : xs.length = sz)
    (hc : ∀ j u, xs[j]? = some u → w.cell? ⟨b, 0 + j, none⟩ = some u) (hv : lk L u = some v) : ResV P n [.cell t ty, .tmp u] L w (.tuple #[.agg xs.toArray, v]) := by
  intro fn a hr ha
  have h1 := ha.slot t _ h
  have h2 := ha.slot u _ hv
  simp [results, hr, h1, h2, asAddr, run_loadA ht hi hl hc]

/-- as Ret.of_T, whatever the results are -/
theorem Ret.of_T2 {P : Program} {f : FuncId} {fn : Func} {c : Code} {n : Nat} {args : List Value} {w : World} {R : Value → World → Prop} (hf : P.funcs[f]? = some fn) (hb : fn.body = some c) (hn : fn.ntmps = n)
    {rs : List ResultVar} (hrs : fn.results = rs.toArray) (hsz : Nat.ble args.length n = true)
    (h : T P n (fun L w' => ∃ v, ResV P n rs L w' v ∧ R v w') (fun _ _ _ => False) (fun L w' => ∃ v, ResV P n rs L w' v ∧ R v w') (args0 0 args) c w) : Ret P f args.toArray w R := by
  have hsz' : args.length ≤ n := Nat.le_of_ble_eq_true hsz
  refine calls_of_wp hf hb (h _ _ ⟨?_, rfl, ?_⟩ ?_ ?_ ?_)
  · simp [hn]; omega
  · intro i v hi
    obtain ⟨_, h2⟩ := lk_args0 args 0 i v hi
    simp at h2
    have hlt : i < args.length := (List.getElem?_eq_some_iff.1 h2).1
    rw [Array.getElem?_append_left (by simpa using hlt)]
    simpa using h2
  · intro L' a' w' ha' ⟨v, hv, hr⟩
    exact ⟨ha'.defers, v, hv fn _ hrs ha', v, rfl, hr⟩
  · intro _ _ _ _ _ hx; exact hx.elim
  · intro L' a' w' ha' ⟨v, hv, hr⟩
    exact ⟨ha'.defers, v, hv fn _ hrs ha', v, rfl, hr⟩
end Go.Fw

namespace Go.Fw
theorem arith_rem {kd : IntKind} (n k : Nat) (hk : k ≠ 0) : Fw.arith .rem kd (n : Int) (k : Int) = some ((n % k : Nat) : Int) := by
  have : (k : Int) ≠ 0 := by omega
  simp only [Fw.arith, if_neg this]
  rw [Int.tmod_eq_emod_of_nonneg (by omega)]; rfl
theorem arith_quo {n k : Nat} (hk : k ≠ 0) (hn : n < 9223372036854775808) : Fw.arith .quo .i64 (n : Int) (k : Int) = some ((n / k : Nat) : Int) := by
  have : (k : Int) ≠ 0 := by omega
  simp only [Fw.arith, if_neg this]
  rw [Int.tdiv_eq_ediv_of_nonneg (by omega)]
  have e : (n : Int) / (k : Int) = ((n / k : Nat) : Int) := rfl
  have hle : n / k ≤ n := Nat.div_le_self _ _
  rw [e]
  generalize n / k = q at hle ⊢
  rw [wr_i64 (by omega) (by omega)]
end Go.Fw

namespace Go.Fw
theorem Rd.ltSize {F : Nat → Prop} {w : World} {sz : Nat} {v : Value} {m : Nat} {xs : List Value} (h : Rd F w sz v m xs) : Rd (fun k => F k ∧ k < w.heap.size) w sz v m xs := by
  obtain ⟨a, c, hv, hl, hm, hc, hn, hx⟩ := h
  refine ⟨a, c, hv, hl, hm, hc, hn, fun hne => ?_⟩
  obtain ⟨b, off, ha, hF, hcell⟩ := hx hne
  refine ⟨b, off, ha, ⟨hF, ?_⟩, hcell⟩
  cases xs with
  | nil => exact absurd rfl hne
  | cons x xs => exact lt_of_cell (hcell 0 x rfl)
theorem By.ltSize {F : Nat → Prop} {w : World} {v : Value} {l : List UInt8} (h : By F w v l) : By (fun k => F k ∧ k < w.heap.size) w v l := Rd.ltSize h
theorem By.drop {F : Nat → Prop} {w : World} {a : Option Addr} {m c lw : Nat} {l : List UInt8} (h : By F w (.slice a m c) l) (h1 : lw ≤ m) :
    By F w (.slice (if c = lw then a else a.map (·.add (lw * 1))) (m - lw) (c - lw)) (l.drop lw) := by
  have hm : m = l.length := by obtain ⟨a', c', hv, _⟩ := h; simp at hv; exact hv.2.1
  have := By.slice h hm h1 (Nat.le_refl _)
  rwa [List.take_of_length_le (by simp; omega)] at this
theorem By.shape {F : Nat → Prop} {w : World} {v : Value} {l : List UInt8} (h : By F w v l) : ∃ a c, v = .slice a l.length c ∧ l.length ≤ c := by
  obtain ⟨a, c, hv, _, hm, _⟩ := h; exact ⟨a, c, hv, hm⟩
end Go.Fw
