/- A frame for walks: the slots of a call as a list of numbers and values; rules for the code's constructs and its plain operations. Conditions: none; it speaks of any program. -/
import Derived.Tactics
import Derived.Orders
import Derived.Below
import Derived.Deep.LoopGhost
import Derived.ProofKit
set_option linter.all false
namespace Go.Fw

theorem beq_ne {d i : Nat} (e : d ≠ i) : Nat.beq d i = false := by
  cases h : Nat.beq d i
  · rfl
  · exact absurd (Nat.eq_of_beq_eq_true h) e

abbrev Sl := List (Nat × Value)

def lk : Sl → Nat → Option Value
  | [], _ => none
  | (j, v) :: l, i => bif Nat.beq j i then some v else lk l i

def opv (L : Sl) : Operand → Option Value
  | .tmp t => lk L t
  | .const v => some v
  | .global g => some (.pointer (some ⟨g, 0, none⟩))
  | .func f => some (.func (.func f) #[] #[])

structure Fr (n : Nat) (L : Sl) (a : Act) : Prop where
  size : a.tmps.size = n
  defers : a.defers = []
  slot : ∀ i v, lk L i = some v → a.tmps[i]? = some v

theorem Fr.eval {n : Nat} {L : Sl} {a : Act} (h : Fr n L a) {x : Operand} {v : Value} (hx : opv L x = some v) : a.eval x = v := by
  cases x with
  | tmp t => have := h.slot t v hx; simp [Act.eval, this]
  | const c => simpa [Act.eval, opv] using hx
  | global g => simpa [Act.eval, opv] using hx
  | func f => simpa [Act.eval, opv] using hx

theorem Fr.put {n : Nat} {L : Sl} {a : Act} (h : Fr n L a) {d : Nat} (hd : Nat.blt d n = true) (v : Value) : Fr n ((d, v) :: L) (a.put (some d) v) := by
  have hd' : d < n := by simpa [Nat.blt_eq] using hd
  refine ⟨by simp [Act.put, h.size], by simp [Act.put, h.defers], fun i u hi => ?_⟩
  simp only [lk] at hi
  by_cases e : d = i
  · subst e
    simp at hi
    subst hi
    simp [Act.put, h.size, hd']
  · have : Nat.beq d i = false := beq_ne e
    simp [this] at hi
    simp only [Act.put]
    rw [Array.getElem?_setIfInBounds_ne e]
    exact h.slot i u hi

theorem Fr.sub {n : Nat} {L L' : Sl} {a : Act} (h : Fr n L a) (hs : ∀ i v, lk L' i = some v → lk L i = some v) : Fr n L' a :=
  ⟨h.size, h.defers, fun i v hi => h.slot i v (hs i v hi)⟩

/-- L' says no more than L. -/
def Less (L' L : Sl) : Prop := ∀ i v, lk L' i = some v → lk L i = some v
theorem Less.nil (L : Sl) : Less [] L := fun _ _ h => by simp [lk] at h
theorem Less.cons {L' L : Sl} {i : Nat} {v : Value} (h : lk L i = some v) (k : Less L' L) : Less ((i, v) :: L') L := by
  intro j u hj
  simp only [lk] at hj
  by_cases e : i = j
  · subst e; simp at hj; subst hj; exact h
  · have : Nat.beq i j = false := beq_ne e
    simp [this] at hj
    exact k j u hj

theorem Less.cons' {L' L : Sl} {i : Nat} {u v : Value} (h : lk L i = some u) (e : u = v) (k : Less L' L) : Less ((i, v) :: L') L := Less.cons (e ▸ h) k

/-- Is a guarded operation carried out? -/
def gd (ops : Array Oper) (L : Sl) : Option (Nat × Bool) → Option Bool
  | none => some true
  | some (j, want) => match (ops[j]?).bind (·.dst) with
    | none => some false
    | some d => match lk L d with
      | some (.bool b) => some (b == want)
      | some (.tuple _) => some false
      | _ => none

theorem gd_wanted {ops : Array Oper} {n : Nat} {L : Sl} {a : Act} (h : Fr n L a) {o : Oper} {b : Bool} (hg : gd ops L o.guard = some b) : Region.wanted o (yielded ops a.tmps) = b := by
  unfold Region.wanted
  cases hgd : o.guard with
  | none => simp [hgd, gd] at hg; simp [← hg]
  | some p =>
    obtain ⟨j, want⟩ := p
    simp only [hgd, gd] at hg ⊢
    cases hj : (ops[j]?).bind (·.dst) with
    | none => simp [hj] at hg; simp [yielded, hj, ← hg]
    | some d =>
      simp only [hj] at hg
      cases hd : lk L d with
      | none => simp [hd] at hg
      | some v =>
        have hs := h.slot d v hd
        cases v <;> simp [hd] at hg <;> simp [yielded, hj, hs, ← hg]

/-- A list of operations comes from the slots L, in the world w, to what N says of the slots and the world behind it. -/
def TL (P : Program) (ops : Array Oper) (n : Nat) (L : Sl) (rest : List Oper) (w : World) (N : Sl → World → Prop) : Prop :=
  ∀ Q a, Fr n L a → (∀ L' a' w', Fr n L' a' → N L' w' → Q Exit.normal a' w') → wpList P ops Q rest a w

/-- Code comes from the slots L, in the world w, to N (it goes on), X (an exit) or R (a return). -/
def T (P : Program) (n : Nat) (N : Sl → World → Prop) (X : Nat → Sl → World → Prop) (R : Sl → World → Prop) (L : Sl) (c : Code) (w : World) : Prop :=
  ∀ Q a, Fr n L a → (∀ L' a' w', Fr n L' a' → N L' w' → Q Exit.normal a' w') → (∀ i L' a' w', Fr n L' a' → X i L' w' → Q (Exit.exit i) a' w') →
    (∀ L' a' w', Fr n L' a' → R L' w' → Q Exit.ret a' w') → c.wp P Q a w

section code
variable {P : Program} {n : Nat} {N : Sl → World → Prop} {X : Nat → Sl → World → Prop} {R : Sl → World → Prop} {L : Sl} {w : World}

theorem T.mono {N' : Sl → World → Prop} {X' : Nat → Sl → World → Prop} {R' : Sl → World → Prop} {c : Code} (h : T P n N X R L c w)
    (hN : ∀ L w, N L w → N' L w) (hX : ∀ i L w, X i L w → X' i L w) (hR : ∀ L w, R L w → R' L w) : T P n N' X' R' L c w :=
  fun Q a ha qn qx qr => h Q a ha (fun _ _ _ f k => qn _ _ _ f (hN _ _ k)) (fun _ _ _ _ f k => qx _ _ _ _ f (hX _ _ _ k)) (fun _ _ _ f k => qr _ _ _ f (hR _ _ k))

theorem T.sub {L' : Sl} {c : Code} (hs : Less L' L) (h : T P n N X R L' c w) : T P n N X R L c w :=
  fun Q a ha qn qx qr => h Q a (ha.sub hs) qn qx qr

theorem T.skip (h : N L w) : T P n N X R L .skip w := fun _ _ ha qn _ _ => wp_skip (qn _ _ _ ha h)
theorem T.exit {i : Nat} (h : X i L w) : T P n N X R L (.exit i) w := fun _ _ ha _ qx _ => wp_exit (qx _ _ _ _ ha h)
theorem T.ret (h : R L w) : T P n N X R L .ret w := fun _ _ ha _ _ qr => wp_ret (qr _ _ _ ha h)

theorem T.seq {x y : Code} (h : T P n (fun L' w' => T P n N X R L' y w') X R L x w) : T P n N X R L (.seq x y) w :=
  fun Q a ha qn qx qr => wp_seq (h _ a ha (fun _ _ _ f k => k Q _ f qn qx qr) (fun i _ _ _ f k => qx i _ _ _ f k) (fun _ _ _ f k => qr _ _ _ f k))

theorem T.cut (M : Sl → World → Prop) {x y : Code} (h : T P n M X R L x w) (k : ∀ L' w', M L' w' → T P n N X R L' y w') : T P n N X R L (.seq x y) w :=
  T.seq (h.mono (fun _ _ m => k _ _ m) (fun _ _ _ h => h) (fun _ _ h => h))

theorem T.block {i : Nat} {c : Code} (h : T P n N (fun j L' w' => bif Nat.beq j i then N L' w' else X j L' w') R L c w) : T P n N X R L (.block i c) w := by
  intro Q a ha qn qx qr
  refine wp_block (h _ a ha (fun _ _ _ f k => qn _ _ _ f k) ?_ (fun _ _ _ f k => qr _ _ _ f k))
  intro j L' a' w' f k
  by_cases e : j = i
  · subst e; simp only [Nat.beq_refl, cond_true] at k; simp only [Exit.inBlock, if_true]; exact qn _ _ _ f k
  · have : Nat.beq j i = false := beq_ne e
    simp only [this, cond_false] at k; simp only [Exit.inBlock, e, if_false]; exact qx _ _ _ _ f k

theorem T.condT {c : Operand} {x y : Code} (hc : opv L c = some (.bool true)) (h : T P n N X R L x w) : T P n N X R L (.cond c x y) w :=
  fun Q a ha qn qx qr => wp_cond_true (ha.eval hc) (h Q a ha qn qx qr)
theorem T.condF {c : Operand} {x y : Code} (hc : opv L c = some (.bool false)) (h : T P n N X R L y w) : T P n N X R L (.cond c x y) w :=
  fun Q a ha qn qx qr => wp_cond_false (ha.eval hc) (h Q a ha qn qx qr)
theorem T.cond {c : Operand} {x y : Code} {b : Bool} (hc : opv L c = some (.bool b)) (ht : b = true → T P n N X R L x w) (hf : b = false → T P n N X R L y w) : T P n N X R L (.cond c x y) w := by
  cases b
  · exact T.condF hc (hf rfl)
  · exact T.condT hc (ht rfl)

/-- A loop: what holds at its head, by a number that goes down. -/
theorem T.loop {c : Code} (I : Nat → Sl → World → Prop) (m : Nat) (h0 : I m L w)
    (round : ∀ m L w, I m L w → T P n (fun L' w' => ∃ m', m' < m ∧ I m' L' w') X R L c w) : T P n N X R L (.loop c) w := by
  intro Q a ha _ qx qr
  refine wp_loop_ghost (fun m a w => ∃ L, Fr n L a ∧ I m L w) m ⟨L, ha, h0⟩ ?_
  intro m a w hI
  obtain ⟨L, hf, hi⟩ := hI
  exact round m L w hi _ a hf (fun L' a' w' f k => let ⟨m', hm, hi⟩ := k; ⟨m', hm, L', f, hi⟩) (fun _ _ _ _ f k => qx _ _ _ _ f k) (fun _ _ _ f k => qr _ _ _ f k)
end code
end Go.Fw
