/- Arguments that are read as data: what they are in a walk's words. Conditions: none; it speaks of any program. -/
import Derived.Test.YtflioeagjefkmaaDoorFwK
import Derived.ProofKit
import Derived.Deep.Slices
import Derived.Lib.LaidTab
set_option linter.all false
namespace Go.Fw
open Go.RowKit Go.Deep
section
variable {H : Type} {enc : TypeId × Value → H} {P : Program} {w : World} {base : Nat} {spare : Nat → Bool} {held : Bool}
theorem addr_add (b o i : Nat) : (⟨b, o, none⟩ : Addr).add i = ⟨b, o + i, none⟩ := by unfold Addr.add; split <;> simp_all
theorem spot_none {a : Addr} {v : Value} (h : w.cell? a = some v) : a.spot = none := by
  unfold World.cell? at h
  split at h
  · split at h
    · cases h
    · rename_i hs; simpa using hs
  · cases h
theorem addr0 {a : Addr} {v : Value} (h : w.cell? (a.add 0) = some v) : a = ⟨a.block, a.off, none⟩ := by
  obtain ⟨b, o, s⟩ := a
  have hs := spot_none h
  have h0 : s = none := by simpa [Addr.add] using hs
  subst h0
  rfl
theorem u8_val {e : TypeId} {n : Nat} {v : Value} {x : DataW H × List MemPlace} (he : P.underlying e = some (.int .u8)) (h : DataW.trod enc P w base spare held n e [v] = some x) : ∃ b : UInt8, v = vb b := by
  obtain ⟨m, hv, _, hw⟩ := DataW.trod_int he h
  simp only [List.cons.injEq, and_true] at hv
  have hb : 0 ≤ m ∧ m < 256 := by
    simp [Lit.wf, IntKind.min, IntKind.max, IntKind.signed, IntKind.bits] at hw; omega
  refine ⟨UInt8.ofNat m.toNat, ?_⟩
  rw [hv, vb]
  congr 1
  simp; omega
theorem choose_list {α : Type} {p : Nat → α → Prop} : ∀ (n : Nat), (∀ i, i < n → ∃ x, p i x) → ∃ l : List α, l.length = n ∧ ∀ i x, l[i]? = some x → p i x
  | 0, _ => ⟨[], rfl, fun i x h => by simp at h⟩
  | n + 1, h => by
    obtain ⟨l, h1, h2⟩ := choose_list n fun i hi => h i (by omega)
    obtain ⟨x, hx⟩ := h n (by omega)
    refine ⟨l ++ [x], by simp [h1], fun i y hy => ?_⟩
    by_cases hi : i < l.length
    · rw [List.getElem?_append_left hi] at hy; exact h2 i y hy
    · rw [List.getElem?_append_right (by omega)] at hy
      cases hk : i - l.length with
      | zero => rw [hk] at hy; simp at hy; subst hy; rw [show i = n by omega]; exact hx
      | succ k => rw [hk] at hy; simp at hy
/-- bytes that came in -/
theorem opn_by {t e : TypeId} {fuel : Nat} {v : Value} {x : DataW H × List MemPlace} (ht : P.underlying t = some (.slice e)) (he : P.underlying e = some (.int .u8)) (hc : P.cellsOf e = 1) (h : DataW.trod enc P w base spare held fuel t [v] = some x) :
    ∃ l : List UInt8, By (fun _ => True) w v l ∧ l.length ≤ 9223372036854775807 := by
  rcases open_slice1 ht hc h with ⟨hcs, _⟩ | ⟨a, len, cap, m, n, V, D, Pl, hcs, hb, hl, hcm, hm, _, hx⟩
  · simp only [List.cons.injEq, and_true] at hcs
    exact ⟨[], ⟨none, 0, by rw [hcs]; rfl, by simp, Nat.le_refl _, Nat.zero_le _, fun _ => rfl, fun h => absurd rfl h⟩, by simp⟩
  · simp only [List.cons.injEq, and_true] at hcs
    have hlm : len ≤ m := by rw [hm]; split <;> omega
    obtain ⟨l, hll, hlp⟩ := choose_list (p := fun i (b : UInt8) => w.cell? (a.add i) = some (vb b)) len fun i hi => by
      obtain ⟨h1, h2⟩ := hx i (by omega)
      obtain ⟨b, hb⟩ := u8_val he h2
      exact ⟨b, by rw [h1, hb]⟩
    have hmax : cap ≤ 9223372036854775807 := by simpa [maxLen] using hcm
    refine ⟨l, ⟨some a, cap, by rw [hcs, hll], by simp, by omega, hcm, (fun h => by cases h), fun hne => ?_⟩, by omega⟩
    have h0 : 0 < l.length := by
      rcases Nat.eq_zero_or_pos l.length with h | h
      · rw [List.eq_nil_of_length_eq_zero h] at hne; exact absurd rfl hne
      · exact h
    have e1 := addr0 (hlp 0 _ (List.getElem?_eq_getElem h0))
    refine ⟨a.block, a.off, by rw [← e1], trivial, fun j u hu => ?_⟩
    simp only [List.getElem?_map, Option.map_eq_some_iff] at hu
    obtain ⟨b, hb, rfl⟩ := hu
    have := hlp j b hb
    rw [e1, addr_add] at this
    exact this
/-- a list whose parts are told one by one -/
theorem Els.make {α : Type} {E : Elm α} {F : Nat → Prop} {b off : Nat} : ∀ (n : Nat), (∀ i, i < n → ∃ us a, E.rel F w us a ∧ ∀ j u, us[j]? = some u → w.cell? ⟨b, off + i * E.sz + j, none⟩ = some u) →
    ∃ (xss : List (List Value)) (xs : List α), xs.length = n ∧ Els E F w xss xs ∧ ∀ j u, xss.flatten[j]? = some u → w.cell? ⟨b, off + j, none⟩ = some u
  | 0, _ => ⟨[], [], rfl, Els.nil, fun j u h => by simp at h⟩
  | n + 1, h => by
    obtain ⟨xss, xs, h1, h2, h3⟩ := Els.make n fun i hi => h i (by omega)
    obtain ⟨us, a, h4, h5⟩ := h n (by omega)
    refine ⟨xss ++ [us], xs ++ [a], by simp [h1], h2.snoc h4, fun j u hu => ?_⟩
    have hfl := h2.flen
    rw [List.flatten_append] at hu
    by_cases hj : j < xss.flatten.length
    · rw [List.getElem?_append_left hj] at hu; exact h3 j u hu
    · rw [List.getElem?_append_right (by omega)] at hu
      have := h5 (j - xss.flatten.length) u (by simpa using hu)
      rw [hfl, h1] at this
      rw [show off + j = off + n * E.sz + (j - n * E.sz) by rw [hfl, h1] at hj; omega]
      exact this
theorem opn_list {α : Type} {E : Elm α} {t e : TypeId} {fuel : Nat} {v : Value} {x : DataW H × List MemPlace} (ht : P.underlying t = some (.slice e)) (hc : P.cellsOf e = E.sz) (hz : 0 < E.sz) (h : DataW.trod enc P w base spare held fuel t [v] = some x)
    (hel : ∀ n cs y, DataW.trod enc P w base spare held n e cs = some y → ∃ a, E.rel (fun _ => True) w cs a) : ∃ xs : List α, Lsr E (fun _ => True) w v xs ∧ xs.length ≤ 9223372036854775807 := by
  rcases open_slice ht h with ⟨hcs, _⟩ | ⟨a, len, cap, m, n, D, Pl, hcs, hb, hl, hcm, hm, _, hx⟩
  · simp only [List.cons.injEq, and_true] at hcs
    exact ⟨[], ⟨[], ⟨none, 0, by rw [hcs]; rfl, by simp, Nat.le_refl _, Nat.zero_le _, fun _ => rfl, fun h => absurd rfl h⟩, Els.nil⟩, by simp⟩
  · simp only [List.cons.injEq, and_true] at hcs
    have hlm : len ≤ m := by rw [hm]; split <;> omega
    have hmax : cap ≤ 9223372036854775807 := by simpa [maxLen] using hcm
    rw [hc] at hx
    have hcell : ∀ i, i < len → ∃ us y, E.rel (fun _ => True) w us y ∧ us.length = E.sz ∧ ∀ j u, us[j]? = some u → w.cell? ((a.add (i * E.sz)).add j) = some u := fun i hi => by
      obtain ⟨cs', h1, h2⟩ := hx i (by omega)
      obtain ⟨y, hy⟩ := hel n cs' _ h2
      obtain ⟨_, h3, h4⟩ := World.cells?_some h1
      exact ⟨cs', y, hy, h3, fun j u hu => by rw [h4 j (by rw [← h3]; exact (List.getElem?_eq_some_iff.1 hu).1)]; exact hu⟩
    rcases Nat.eq_zero_or_pos len with h0 | h0
    · subst h0
      exact ⟨[], ⟨[], ⟨some a, cap, by rw [hcs]; rfl, by simp, by omega, hcm, (fun h => by cases h), fun h => absurd rfl h⟩, Els.nil⟩, by simp⟩
    · have hspot : a = ⟨a.block, a.off, none⟩ := by
        obtain ⟨us, y, _, h3, h4⟩ := hcell 0 h0
        have := h4 0 _ (List.getElem?_eq_getElem (by rw [h3]; exact hz))
        rw [Nat.zero_mul] at this
        have e : (a.add 0).add 0 = a.add 0 := by simp [Addr.add]
        rw [e] at this
        exact addr0 this
      obtain ⟨xss, xs, h1, h2, h3⟩ := Els.make (E := E) (F := fun _ => True) (w := w) (b := a.block) (off := a.off) len fun i hi => by
        obtain ⟨us, y, h2, _, h4⟩ := hcell i hi
        refine ⟨us, y, h2, fun j u hu => ?_⟩
        have := h4 j u hu
        rw [hspot, addr_add, addr_add] at this
        exact this
      have hfl := h2.flen
      refine ⟨xs, ⟨xss, ⟨some a, cap, by rw [hcs, h1], hfl, by omega, hcm, (fun h => by cases h), fun _ => ⟨a.block, a.off, by rw [← hspot], trivial, h3⟩⟩, h2⟩, by omega⟩
end
end Go.Fw
