/- How texts are ordered: plain laws. Conditions: as each theorem says. -/
import Derived.Test.YtflioeagjefkmaaDoorByt
import Derived.Test.YtflioeagjefkmaaDoorFwK
set_option linter.all false
namespace Go.Proofs
theorem u8_lt (a b : UInt8) : a < b ↔ a.toNat < b.toNat := UInt8.lt_iff_toNat_lt
theorem u8_eq (a b : UInt8) : a = b ↔ a.toNat = b.toNat := ⟨fun h => by rw [h], fun h => UInt8.toNat_inj.1 h⟩
theorem cmpL_self (a : List UInt8) : cmpL a a = 0 := by
  induction a with
  | nil => rfl
  | cons x a ih => simp [cmpL, u8_lt, ih]
theorem cmpL_eq0 {a b : List UInt8} (h : cmpL a b = 0) : a = b := by
  induction a generalizing b with
  | nil => cases b with
    | nil => rfl
    | cons y b => simp [cmpL] at h
  | cons x a ih => cases b with
    | nil => simp [cmpL] at h
    | cons y b =>
      simp only [cmpL] at h
      split at h
      · omega
      · split at h
        · omega
        · rename_i h1 h2
          rw [u8_lt] at h1 h2
          rw [ih h, (u8_eq x y).2 (by omega)]
theorem cmpL_eq0_iff {a b : List UInt8} : cmpL a b = 0 ↔ a = b := ⟨cmpL_eq0, fun h => by rw [h, cmpL_self]⟩
theorem cmpL_swap (a b : List UInt8) : cmpL b a = - cmpL a b := by
  induction a generalizing b with
  | nil => cases b <;> simp [cmpL]
  | cons x a ih => cases b with
    | nil => simp [cmpL]
    | cons y b =>
      simp only [cmpL]
      by_cases h1 : x < y
      · have h2 : ¬ y < x := by rw [u8_lt] at *; omega
        simp [h1, h2]
      · by_cases h2 : y < x
        · simp [h1, h2]
        · simp [h1, h2, ih]
theorem cmpL_trans {a b c : List UInt8} (h1 : cmpL a b < 0) (h2 : cmpL b c < 0) : cmpL a c < 0 := by
  induction a generalizing b c with
  | nil =>
    cases c with
    | nil => cases b <;> simp [cmpL] at h1 h2
    | cons z c => simp [cmpL]
  | cons x a ih =>
    cases b with
    | nil => simp [cmpL] at h1
    | cons y b =>
      cases c with
      | nil => simp [cmpL] at h2
      | cons z c =>
        simp only [cmpL, u8_lt] at h1 h2 ⊢
        by_cases hx : x.toNat < y.toNat
        · by_cases hy : y.toNat < z.toNat
          · rw [if_pos (by omega)]; omega
          · by_cases hy' : z.toNat < y.toNat
            · rw [if_neg hy, if_pos hy'] at h2; omega
            · rw [if_pos (by omega)]; omega
        · by_cases hx' : y.toNat < x.toNat
          · rw [if_neg hx, if_pos hx'] at h1; omega
          · rw [if_neg hx, if_neg hx'] at h1
            by_cases hy : y.toNat < z.toNat
            · rw [if_pos (by omega)]; omega
            · by_cases hy' : z.toNat < y.toNat
              · rw [if_neg hy, if_pos hy'] at h2; omega
              · rw [if_neg hy, if_neg hy'] at h2
                rw [if_neg (by omega), if_neg (by omega)]
                exact ih h1 h2
theorem bytesLess_cmpL (a b : List UInt8) : Op.bytesLess a b = decide (cmpL a b < 0) := by
  induction a generalizing b with
  | nil => cases b <;> simp [Op.bytesLess, cmpL]
  | cons x a ih => cases b with
    | nil => simp [Op.bytesLess, cmpL]
    | cons y b =>
      simp only [Op.bytesLess, cmpL, ih]
      by_cases h1 : x < y
      · simp [h1]
      · by_cases h2 : y < x
        · have : ¬ x = y := by rintro rfl; exact h1 h2
          simp [h1, h2, this]
        · have : x = y := by rw [u8_lt] at h1 h2; rw [u8_eq]; omega
          simp [this]
end Go.Proofs
