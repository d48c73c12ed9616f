/- The leaves of trees that are put into and cut from: plain laws, held against the document's lists of pairs. Conditions: as each theorem says. -/
import Derived.Test.YtflioeagjefkmaaDoorRly
import Derived.Test.YtflioeagjefkmaaDoorRef
set_option linter.all false
namespace Go.Proofs
open Go.Fw
namespace Tr
theorem bal_leaves (l r : Tr) : (l.bal r).leaves = l.leaves ++ r.leaves := by
  unfold bal
  split
  · split
    · rfl
    · split
      · split <;> simp [leaves]
      · simp [leaves]
  · split
    · split
      · rfl
      · split
        · split <;> simp [leaves]
        · simp [leaves]
    · rfl
theorem leaves_head : ∀ t : Tr, ∃ v ps, t.leaves = (t.least, v) :: ps
  | leaf k v => ⟨v, [], rfl⟩
  | node l r => by obtain ⟨v, ps, h⟩ := leaves_head l; exact ⟨v, ps ++ r.leaves, by simp [leaves, least, h]⟩
end Tr
/-- pairs whose keys rise -/
def rise (ps : Prs) : Prop := ps.Pairwise fun a b => cmpL a.1 b.1 < 0
theorem rise_node {l r : Tr} (h : rise (Tr.node l r).leaves) : rise l.leaves ∧ rise r.leaves ∧ (∀ p ∈ l.leaves, cmpL p.1 r.least < 0) ∧ (∀ p ∈ r.leaves, 0 ≤ cmpL p.1 r.least) := by
  simp only [rise, Tr.leaves, List.pairwise_append] at h
  obtain ⟨h1, h2, h3⟩ := h
  obtain ⟨v, ps, hr⟩ := Tr.leaves_head r
  refine ⟨h1, h2, fun p hp => h3 p hp (r.least, v) (by rw [hr]; simp), fun p hp => ?_⟩
  rw [hr] at hp h2
  simp only [List.mem_cons] at hp
  rcases hp with rfl | hp
  · rw [cmpL_self]; omega
  · have := (List.pairwise_cons.1 h2).1 p hp
    have e := cmpL_swap r.least p.1
    simp only at this e ⊢
    omega
theorem ppG_left {k v : List UInt8} : ∀ {A B : Prs}, (∀ p ∈ B, cmpL k p.1 < 0) → ppG k v (A ++ B) = ppG k v A ++ B
  | [], [], _ => by simp
  | [], b :: B, h => by
    have := h b (by simp)
    have e := cmpL_swap k b.1
    have hne : (b.1 == k) = false := by
      rw [beq_eq_false_iff_ne]; intro hh; rw [hh, cmpL_self] at this; omega
    simp only [List.nil_append, ppG, if_neg (show ¬ cmpL b.1 k < 0 by omega), hne]; simp
  | a :: A, B, h => by
    simp only [List.cons_append, ppG]
    split
    · rw [ppG_left h]; rfl
    · split <;> simp
theorem ppG_right {k v : List UInt8} : ∀ {A B : Prs}, (∀ p ∈ A, cmpL p.1 k < 0) → ppG k v (A ++ B) = A ++ ppG k v B
  | [], B, _ => rfl
  | a :: A, B, h => by
    simp only [List.cons_append, ppG, if_pos (h a (by simp))]
    rw [ppG_right fun p hp => h p (by simp [hp])]
theorem ge_trans {a b k : List UInt8} (h1 : cmpL k b < 0) (h2 : 0 ≤ cmpL a b) : cmpL k a < 0 := by
  by_cases e : cmpL a b = 0
  · rw [cmpL_eq0 e]; exact h1
  · have := cmpL_swap a b
    exact cmpL_trans h1 (by omega)
theorem lt_le {a b k : List UInt8} (h1 : cmpL a b < 0) (h2 : 0 ≤ cmpL k b) : cmpL a k < 0 := by
  by_cases e : cmpL k b = 0
  · rw [cmpL_eq0 e]; exact h1
  · have := cmpL_swap k b
    exact cmpL_trans h1 (by omega)
theorem Tr.put_leaves (k v : List UInt8) : ∀ t : Tr, rise t.leaves → (t.put k v).leaves = ppG k v t.leaves
  | .leaf k0 v0, _ => by
    have e := cmpL_swap k k0
    simp only [Tr.put, Tr.leaves, ppG]
    by_cases h1 : cmpL k k0 < 0
    · have hne : (k0 == k) = false := by
        rw [beq_eq_false_iff_ne]; intro hh; rw [hh, cmpL_self] at h1; omega
      rw [if_pos h1, if_neg (by omega), hne]; rfl
    · rw [if_neg h1]
      by_cases h2 : 0 < cmpL k k0
      · rw [if_pos h2, if_pos (by omega)]; rfl
      · have : k = k0 := cmpL_eq0 (by omega)
        subst this
        rw [if_neg h2, if_neg (by omega)]; simp [Tr.leaves]
  | .node l r, h => by
    obtain ⟨hl, hr, h1, h2⟩ := rise_node h
    simp only [Tr.put]
    split
    · rename_i hc
      rw [Tr.bal_leaves, Tr.put_leaves k v l hl]
      show _ = ppG k v (l.leaves ++ r.leaves)
      rw [ppG_left fun p hp => ge_trans hc (h2 p hp)]
    · rename_i hc
      rw [Tr.bal_leaves, Tr.put_leaves k v r hr]
      show _ = ppG k v (l.leaves ++ r.leaves)
      rw [ppG_right fun p hp => lt_le (h1 p hp) (by omega)]
theorem cpG_all {k : List UInt8} {A : Prs} (h : ∀ p ∈ A, p.1 ≠ k) : cpG k A = A := by
  rw [cpG, List.filter_eq_self]; intro p hp; simpa using h p hp
theorem cpG_app (k : List UInt8) (A B : Prs) : cpG k (A ++ B) = cpG k A ++ cpG k B := List.filter_append ..
theorem Tr.cut_leaves (k : List UInt8) : ∀ t : Tr, rise t.leaves → lvO (t.cut k).1 = cpG k t.leaves ∧ ((t.cut k).2 = false → ∀ p ∈ t.leaves, p.1 ≠ k)
  | .leaf k0 v0, _ => by
    by_cases h : k0 = k
    · subst h; simp [Tr.cut, lvO, cpG, Tr.leaves]
    · simp [Tr.cut, h, lvO, cpG, Tr.leaves]
  | .node l r, h => by
    obtain ⟨hl, hr, h1, h2⟩ := rise_node h
    simp only [Tr.cut]
    split
    · rename_i hc
      obtain ⟨i1, i2⟩ := Tr.cut_leaves k l hl
      have hR : ∀ p ∈ r.leaves, p.1 ≠ k := fun p hp e => by have := ge_trans hc (h2 p hp); rw [e, cmpL_self] at this; omega
      show _ = cpG k (l.leaves ++ r.leaves) ∧ _
      rw [cpG_app, cpG_all hR, ← i1]
      unfold Tr.join
      split
      · cases hcut : (l.cut k).1 with
        | none => simp [lvO]
        | some a => simp [lvO, Tr.bal_leaves]
      · rename_i hw
        have hw' : (l.cut k).2 = false := by simpa using hw
        have hL := i2 hw'
        refine ⟨by rw [i1, cpG_all hL]; rfl, fun _ p hp => ?_⟩
        simp only [Tr.leaves, List.mem_append] at hp
        exact hp.elim (hL p) (hR p)
    · rename_i hc
      obtain ⟨i1, i2⟩ := Tr.cut_leaves k r hr
      have hL : ∀ p ∈ l.leaves, p.1 ≠ k := fun p hp e => by have := lt_le (h1 p hp) (show 0 ≤ cmpL k r.least by omega); rw [e, cmpL_self] at this; omega
      show _ = cpG k (l.leaves ++ r.leaves) ∧ _
      rw [cpG_app, cpG_all hL, ← i1]
      unfold Tr.join
      split
      · cases hcut : (r.cut k).1 with
        | none => simp [lvO]
        | some a => simp [lvO, Tr.bal_leaves]
      · rename_i hw
        have hw' : (r.cut k).2 = false := by simpa using hw
        have hR := i2 hw'
        refine ⟨by rw [i1, cpG_all hR]; rfl, fun _ p hp => ?_⟩
        simp only [Tr.leaves, List.mem_append] at hp
        exact hp.elim (hL p) (hR p)
theorem rise_cut {k : List UInt8} {ps : Prs} (h : rise ps) : rise (cpG k ps) := List.Pairwise.filter _ h
theorem mem_ppG {k v : List UInt8} {q : List UInt8 × List UInt8} : ∀ {ps : Prs}, q ∈ ppG k v ps → q = (k, v) ∨ q ∈ ps
  | [], h => by simpa [ppG] using h
  | p :: ps, h => by
    rw [ppG] at h
    split at h
    · simp only [List.mem_cons] at h
      rcases h with rfl | h
      · simp
      · rcases mem_ppG h with h | h
        · exact .inl h
        · simp [h]
    · split at h
      · simp only [List.mem_cons] at h; rcases h with h | h <;> simp [h]
      · simp only [List.mem_cons] at h; rcases h with h | h | h <;> simp [h]
theorem rise_put {k v : List UInt8} : ∀ {ps : Prs}, rise ps → rise (ppG k v ps)
  | [], _ => by simp [ppG, rise]
  | p :: ps, h => by
    obtain ⟨h1, h2⟩ := List.pairwise_cons.1 h
    rw [ppG]
    split
    · rename_i hc
      refine List.pairwise_cons.2 ⟨fun q hq => ?_, rise_put h2⟩
      rcases mem_ppG hq with rfl | hq
      · exact hc
      · exact h1 q hq
    · rename_i hc
      have e := cmpL_swap p.1 k
      split
      · rename_i he
        have he' : p.1 = k := by simpa using he
        exact List.pairwise_cons.2 ⟨fun q hq => by rw [← he']; exact h1 q hq, h2⟩
      · rename_i he
        have hlt : cmpL k p.1 < 0 := by
          have : cmpL k p.1 ≠ 0 := fun h0 => he (by rw [cmpL_eq0 h0]; simp)
          omega
        refine List.pairwise_cons.2 ⟨fun q hq => ?_, h⟩
        simp only [List.mem_cons] at hq
        rcases hq with rfl | hq
        · exact hlt
        · exact cmpL_trans hlt (h1 q hq)
theorem ppG_len (k v : List UInt8) : ∀ ps : Prs, (ppG k v ps).length ≤ ps.length + 1
  | [] => by simp [ppG]
  | p :: ps => by
    have := ppG_len k v ps
    rw [ppG]; split
    · simp; omega
    · split <;> simp
theorem small_put {k v : List UInt8} {ps : Prs} (h : small ps) (hk : k.length ≤ 96) (hv : v.length ≤ 256) : small (ppG k v ps) := fun q hq => by
  rcases mem_ppG hq with rfl | hq
  · exact ⟨hk, hv⟩
  · exact h q hq
theorem small_cut {k : List UInt8} {ps : Prs} (h : small ps) : small (cpG k ps) := fun q hq => h q (List.mem_filter.1 hq).1

theorem find_mem (key : List UInt8) : ∀ (ps : Prs) (i : Nat), 0 ≤ findI key ps i ↔ ∃ p ∈ ps, p.1 = key
  | [], i => by simp [findI]
  | p :: ps, i => by
    rw [findI]
    split
    · rename_i h
      have : p.1 = key := by simpa using h
      exact ⟨fun _ => ⟨p, by simp, this⟩, fun _ => by omega⟩
    · rename_i h
      have : p.1 ≠ key := by simpa using h
      rw [find_mem key ps (i + 1)]
      simp [this]
theorem down_mem (key : List UInt8) : ∀ t : Tr, rise t.leaves → ((downT (wayF key) t).key = key ↔ ∃ p ∈ t.leaves, p.1 = key)
  | .leaf k v, _ => by simp [downT, Tr.leaves]
  | .node l r, h => by
    obtain ⟨hl, hr, h1, h2⟩ := rise_node h
    have hg : wayF key (Tr.node l r).nd = decide (0 ≤ cmpL key r.least) := rfl
    simp only [downT, hg]
    by_cases hc : 0 ≤ cmpL key r.least
    · rw [if_pos (by simpa using hc), down_mem key r hr]
      constructor
      · rintro ⟨p, hp, e⟩; exact ⟨p, by simp [Tr.leaves, hp], e⟩
      · rintro ⟨p, hp, e⟩
        simp only [Tr.leaves, List.mem_append] at hp
        rcases hp with hp | hp
        · have := h1 p hp; rw [e] at this; omega
        · exact ⟨p, hp, e⟩
    · rw [if_neg (by simpa using hc), down_mem key l hl]
      constructor
      · rintro ⟨p, hp, e⟩; exact ⟨p, by simp [Tr.leaves, hp], e⟩
      · rintro ⟨p, hp, e⟩
        simp only [Tr.leaves, List.mem_append] at hp
        rcases hp with hp | hp
        · exact ⟨p, hp, e⟩
        · have := h2 p hp; rw [e] at this; omega
theorem make_mem (key : List UInt8) (o : Option Tr) (h : rise (lvO o)) : (makeO key o).2 = true ↔ ∃ p ∈ lvO o, p.1 = key := by
  cases o with
  | none => simp [makeO, lvO]
  | some t =>
    have := down_mem key t h
    unfold makeO
    by_cases hk : (downT (wayF key) t).key = key
    · simp only [downO, Option.isSome_some, Bool.true_and, hk, beq_self_eq_true, if_true]; simpa [hk, lvO] using this
    · have hk' : ((downT (wayF key) t).key == key) = false := by simpa using hk
      simp only [downO, Option.isSome_some, Bool.true_and, hk']
      simp only [hk, false_iff] at this
      simpa [lvO] using this
theorem gapF_mem (o : Option Tr) (key : List UInt8) : ∀ (xs : Prs) (g : Gp), (gapF o key xs g).isSome = true ↔ ∀ p ∈ xs, p.1 ≠ key
  | [], g => by simp [gapF]
  | x :: xs, g => by
    rw [gapF]
    split
    · rename_i h; have := cmpL_eq0 h; simp [this]
    · rename_i h
      have hne : x.1 ≠ key := fun e => h (by rw [e, cmpL_self])
      split
      · rw [gapF_mem]; simp [hne]
      · split <;> rw [gapF_mem] <;> simp [hne]
end Go.Proofs
