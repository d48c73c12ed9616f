/- A frame for walks: rules for the plain operations and for calls. Conditions: none; it speaks of any program. -/
import Derived.Test.YtflioeagjefkmaaDoorFwA
set_option linter.all false
namespace Go.Fw

def opvs (L : Sl) : List Operand → Option (List Value)
  | [] => some []
  | x :: xs => match opv L x, opvs L xs with
    | some v, some vs => some (v :: vs)
    | _, _ => none

theorem opvs_eval {n : Nat} {L : Sl} {a : Act} (h : Fr n L a) : ∀ {xs : List Operand} {vs : List Value}, opvs L xs = some vs → xs.map a.eval = vs
  | [], vs, e => by simp [opvs] at e; simp [e]
  | x :: xs, vs, e => by
    simp only [opvs] at e
    cases hx : opv L x with
    | none => simp [hx] at e
    | some v =>
      cases hxs : opvs L xs with
      | none => simp [hx, hxs] at e
      | some us =>
        simp [hx, hxs] at e
        subst e
        simp [h.eval hx, opvs_eval h hxs]

/-- The call returns, and R holds of what and of the world behind it. -/
def Ret (P : Program) (f : FuncId) (args : Array Value) (w : World) (R : Value → World → Prop) : Prop :=
  Calls P f args w fun e w' => ∃ v, e = .returned v ∧ R v w'

theorem Ret.mono {P : Program} {f : FuncId} {args : Array Value} {w : World} {R R' : Value → World → Prop} (h : Ret P f args w R) (hr : ∀ v w', R v w' → R' v w') : Ret P f args w R' :=
  Calls.mono h fun _ _ ⟨v, he, r⟩ => ⟨v, he, hr _ _ r⟩

class Cal (P : Program) (f : FuncId) : Prop where
  out : ∃ fn, P.funcs[f]? = some fn ∧ fn.body.isNone = false ∧ (fn.name == "runtime.NumGoroutine") = false

class Und (P : Program) (t : TypeId) (d : outParam TypeDesc) : Prop where
  out : P.underlying t = some d

class Inf (P : Program) (t : TypeId) (size bytes : outParam Nat) (zero : outParam Value) : Prop where
  out : ∃ i, P.info? t = some i ∧ i.size = size ∧ i.bytes = bytes ∧ i.zero = some zero
  zs : zero.cells.size = size

/-- The field f of the struct s: where it lies, of which type, of how many cells. -/
class Fld (P : Program) (s f : Nat) (off : outParam Nat) (ty : outParam TypeId) (size : outParam Nat) : Prop where
  out : ∃ fields fl, P.underlying s = some (.struct fields) ∧ fields[f]? = some fl ∧ fl.offset = off ∧ fl.type = ty ∧ (∃ i, P.info? ty = some i ∧ i.size = size) ∧ (size == 0) = false

theorem Inf.of {P : Program} {t : TypeId} {size bytes : Nat} {z : Value} (h : (P.info? t).map (fun i => (i.zero, i.size, i.bytes)) = some (some z, size, bytes)) (hz : z.cells.size = size) : Inf P t size bytes z := by
  refine ⟨?_, hz⟩
  cases hi : P.info? t with
  | none => simp [hi] at h
  | some i => simp [hi] at h; exact ⟨i, rfl, h.2.1, h.2.2, h.1⟩

def fldOf (P : Program) (s f : Nat) : Option (Nat × TypeId × Option Nat) :=
  match P.underlying s with
  | some (.struct fs) => (fs[f]?).map fun fl => (fl.offset, fl.type, (P.info? fl.type).map (·.size))
  | _ => none

theorem Fld.of {P : Program} {s f off ty size : Nat} (h : fldOf P s f = some (off, ty, some size)) (hz : (size == 0) = false) : Fld P s f off ty size := by
  refine ⟨?_⟩
  unfold fldOf at h
  split at h
  · rename_i fs hu
    cases hf : fs[f]? with
    | none => simp [hf] at h
    | some fl =>
      simp [hf] at h
      obtain ⟨h1, h2, i, h3, h4⟩ := h
      exact ⟨fs, fl, hu, hf, h1, h2, ⟨i, by rw [← h2]; exact h3, h4⟩, hz⟩
  · simp at h

section
variable {P : Program} {ops : Array Oper} {n : Nat} {L : Sl} {rest : List Oper} {w : World} {N : Sl → World → Prop}

theorem TL.nil (h : N L w) : TL P ops n L [] w N := fun _ _ ha qn => qn _ _ _ ha h

theorem TL.sub {L' : Sl} {l : List Oper} (hs : Less L' L) (h : TL P ops n L' l w N) : TL P ops n L l w N := fun Q a ha qn => h Q a (ha.sub hs) qn

theorem T.region {X : Nat → Sl → World → Prop} {R : Sl → World → Prop} {i : Nat} {l : List Oper} (h : TL P l.toArray n L l w N) : T P n N X R L (.region i l.toArray false) w :=
  fun Q a ha qn _ _ => wp_region_lit (h Q a ha qn)

/-- What comes behind is kept behind a name. -/
theorem T.seqK {X : Nat → Sl → World → Prop} {R : Sl → World → Prop} {x y : Code} (h : ∀ K : Sl → World → Prop, (∀ L' w', T P n N X R L' y w' → K L' w') → T P n K X R L x w) : T P n N X R L (.seq x y) w :=
  T.seq (h _ fun _ _ k => k)
theorem T.regionO {X : Nat → Sl → World → Prop} {R : Sl → World → Prop} {i : Nat} {l : List Oper} (h : ∀ ops, TL P ops n L l w N) : T P n N X R L (.region i l.toArray false) w := T.region (h _)

theorem TL.skipG {d : Nat} {op : Op} {ty : TypeId} {ps : String} {af : Array Edge} {g : Nat × Bool} (hg : gd ops L (some g) = some false) (hd : Nat.blt d n = true)
    (k : TL P ops n ((d, undef) :: L) rest w N) : TL P ops n L (⟨some d, op, ty, ps, af, some g⟩ :: rest) w N := by
  intro Q a ha qn
  refine wpList_step fun K hK => ?_
  rw [gd_wanted ha (o := ⟨some d, op, ty, ps, af, some g⟩) hg]
  simp only [Bool.false_eq_true, if_false]
  exact hK _ _ (k Q _ (ha.put hd _) qn)

theorem TL.val {d : Nat} {op : Op} {ty : TypeId} {ps : String} {af : Array Edge} {g : Option (Nat × Bool)} (v : Value) (w' : World) (hg : gd ops L g = some true) (hd : Nat.blt d n = true)
    (hr : ∀ a, Fr n L a → (execOp a.eval ⟨some d, op, ty, ps, af, g⟩).run P w = .ok (.value v) w') (k : TL P ops n ((d, v) :: L) rest w' N) :
    TL P ops n L (⟨some d, op, ty, ps, af, g⟩ :: rest) w N := by
  intro Q a ha qn
  refine wpList_step fun K hK => ?_
  rw [gd_wanted ha (o := ⟨some d, op, ty, ps, af, g⟩) hg]
  simp only [if_true, Oper.wp, hr a ha, Oper.upon_value]
  exact hK _ _ (k Q _ (ha.put hd _) qn)

theorem TL.unit {op : Op} {ty : TypeId} {ps : String} {af : Array Edge} {g : Option (Nat × Bool)} (w' : World) (hg : gd ops L g = some true)
    (hr : ∀ a, Fr n L a → (execOp a.eval ⟨none, op, ty, ps, af, g⟩).run P w = .ok .skip w') (k : TL P ops n L rest w' N) :
    TL P ops n L (⟨none, op, ty, ps, af, g⟩ :: rest) w N := by
  intro Q a ha qn
  refine wpList_step fun K hK => ?_
  rw [gd_wanted ha (o := ⟨none, op, ty, ps, af, g⟩) hg]
  simp only [if_true, Oper.wp, hr a ha, Oper.upon_skip]
  exact hK _ _ (k Q _ (by simpa [Act.put] using ha) qn)

/-- The head's value by another name. -/
theorem TL.norm {d : Nat} {v v' : Value} {l : List Oper} (h : v = v') (k : TL P ops n ((d, v') :: L) l w N) : TL P ops n ((d, v) :: L) l w N := h ▸ k

theorem TL.splitB {d : Nat} {b : Bool} {l : List Oper} (ht : b = true → TL P ops n ((d, .bool true) :: L) l w N) (hf : b = false → TL P ops n ((d, .bool false) :: L) l w N) : TL P ops n ((d, .bool b) :: L) l w N := by
  cases b
  · exact hf rfl
  · exact ht rfl

/-- The operation comes to the value v, the world as it is, at whatever frame that has L's values. -/
def Ev (P : Program) (n : Nat) (L : Sl) (o : Oper) (v : Value) (w : World) : Prop := ∀ a, Fr n L a → (execOp a.eval o).run P w = .ok (.value v) w

theorem TL.ev {d : Nat} {op : Op} {ty : TypeId} {ps : String} {af : Array Edge} {g : Option (Nat × Bool)} {v : Value} (hg : gd ops L g = some true) (hd : Nat.blt d n = true)
    (h : Ev P n L ⟨some d, op, ty, ps, af, g⟩ v w) (k : TL P ops n ((d, v) :: L) rest w N) : TL P ops n L (⟨some d, op, ty, ps, af, g⟩ :: rest) w N := TL.val v w hg hd h k

section ops
variable {d : Nat} {ty : TypeId} {ps : String} {af : Array Edge} {g : Option (Nat × Bool)}

theorem Ev.move {x : Operand} {v : Value}  (hx : opv L x = some v) : Ev P n L ⟨some d, .move x, ty, ps, af, g⟩ (v) w :=
  (fun a ha => by simp [execOp, ha.eval hx])
theorem TL.move {x : Operand} {v : Value} (hg : gd ops L g = some true) (hd : Nat.blt d n = true) (hx : opv L x = some v) (k : TL P ops n ((d, v) :: L) rest w N) :
    TL P ops n L (⟨some d, .move x, ty, ps, af, g⟩ :: rest) w N :=
  TL.ev hg hd (Ev.move hx) k
theorem Ev.assign {x : Operand} {v : Value}  (hx : opv L x = some v) : Ev P n L ⟨some d, .assign x, ty, ps, af, g⟩ (v) w :=
  (fun a ha => by simp [execOp, ha.eval hx])
theorem TL.assign {x : Operand} {v : Value} (hg : gd ops L g = some true) (hd : Nat.blt d n = true) (hx : opv L x = some v) (k : TL P ops n ((d, v) :: L) rest w N) :
    TL P ops n L (⟨some d, .assign x, ty, ps, af, g⟩ :: rest) w N :=
  TL.ev hg hd (Ev.assign hx) k
theorem Ev.pickT {c x y : Operand} {v : Value}  (hc : opv L c = some (.bool true)) (hx : opv L x = some v) : Ev P n L ⟨some d, .pick c x y, ty, ps, af, g⟩ (v) w :=
  (fun a ha => by simp [execOp, ha.eval hc, ha.eval hx, asBool])
theorem TL.pickT {c x y : Operand} {v : Value} (hg : gd ops L g = some true) (hd : Nat.blt d n = true) (hc : opv L c = some (.bool true)) (hx : opv L x = some v)
    (k : TL P ops n ((d, v) :: L) rest w N) : TL P ops n L (⟨some d, .pick c x y, ty, ps, af, g⟩ :: rest) w N :=
  TL.ev hg hd (Ev.pickT hc hx) k
theorem Ev.pickF {c x y : Operand} {v : Value}  (hc : opv L c = some (.bool false)) (hy : opv L y = some v) : Ev P n L ⟨some d, .pick c x y, ty, ps, af, g⟩ (v) w :=
  (fun a ha => by simp [execOp, ha.eval hc, ha.eval hy, asBool])
theorem TL.pickF {c x y : Operand} {v : Value} (hg : gd ops L g = some true) (hd : Nat.blt d n = true) (hc : opv L c = some (.bool false)) (hy : opv L y = some v)
    (k : TL P ops n ((d, v) :: L) rest w N) : TL P ops n L (⟨some d, .pick c x y, ty, ps, af, g⟩ :: rest) w N :=
  TL.ev hg hd (Ev.pickF hc hy) k
theorem Ev.nilCheck {x : Operand} {p : Addr}  (hx : opv L x = some (.pointer (some p))) : Ev P n L ⟨some d, .nilCheck x, ty, ps, af, g⟩ (.pointer (some p)) w :=
  (fun a ha => by simp [execOp, ha.eval hx])
theorem TL.nilCheck {x : Operand} {p : Addr} (hg : gd ops L g = some true) (hd : Nat.blt d n = true) (hx : opv L x = some (.pointer (some p)))
    (k : TL P ops n ((d, .pointer (some p)) :: L) rest w N) : TL P ops n L (⟨some d, .nilCheck x, ty, ps, af, g⟩ :: rest) w N :=
  TL.ev hg hd (Ev.nilCheck hx) k
theorem Ev.nilCheckF {x : Operand} {f : FuncId} {fs cs : Array Value}  (hx : opv L x = some (.func (.func f) fs cs)) : Ev P n L ⟨some d, .nilCheck x, ty, ps, af, g⟩ (.func (.func f) fs cs) w :=
  (fun a ha => by simp [execOp, ha.eval hx])
theorem TL.nilCheckF {x : Operand} {f : FuncId} {fs cs : Array Value} (hg : gd ops L g = some true) (hd : Nat.blt d n = true) (hx : opv L x = some (.func (.func f) fs cs))
    (k : TL P ops n ((d, .func (.func f) fs cs) :: L) rest w N) : TL P ops n L (⟨some d, .nilCheck x, ty, ps, af, g⟩ :: rest) w N :=
  TL.ev hg hd (Ev.nilCheckF hx) k
theorem Ev.fieldAddr {s f off : Nat} {fty : TypeId} {size : Nat} [hf : Fld P s f off fty size] {x : Operand} {b o : Nat}  (hx : opv L x = some (.pointer (some ⟨b, o, none⟩))) : Ev P n L ⟨some d, .fieldAddr s x f, ty, ps, af, g⟩ (.pointer (some ⟨b, o + off, none⟩)) w := by
  obtain ⟨fields, fl, hu, hfl, ho, ht, ⟨i, hi, hs⟩, hz⟩ := hf.out
  subst ho ht
  intro a ha
  have hz' : (i.size = 0) = False := by rw [hs]; simpa using hz
  have hadd : (⟨b, o, none⟩ : Addr).add fl.offset = ⟨b, o + fl.offset, none⟩ := by
    unfold Addr.add; split <;> simp_all
  simp [execOp, Instr.fieldAt, run_underlying hu, hfl, ha.eval hx, Instr.sureAddr, fieldPlace, sizeOf, typeInfo, hi, hz', hadd]
theorem TL.fieldAddr {s f off : Nat} {fty : TypeId} {size : Nat} [hf : Fld P s f off fty size] {x : Operand} {b o : Nat} (hg : gd ops L g = some true) (hd : Nat.blt d n = true) (hx : opv L x = some (.pointer (some ⟨b, o, none⟩)))
    (k : TL P ops n ((d, .pointer (some ⟨b, o + off, none⟩)) :: L) rest w N) : TL P ops n L (⟨some d, .fieldAddr s x f, ty, ps, af, g⟩ :: rest) w N :=
  TL.ev hg hd (Ev.fieldAddr hx) k
theorem Ev.extract {x : Operand} {vs : List Value} {i : Nat} {v : Value}  (hx : opv L x = some (.tuple vs.toArray)) (hv : vs[i]? = some v) : Ev P n L ⟨some d, .extract x i, ty, ps, af, g⟩ (v) w :=
  (fun a ha => by simp [execOp, ha.eval hx, Instr.extract, hv])
theorem TL.extract {x : Operand} {vs : List Value} {i : Nat} {v : Value} (hg : gd ops L g = some true) (hd : Nat.blt d n = true) (hx : opv L x = some (.tuple vs.toArray)) (hv : vs[i]? = some v)
    (k : TL P ops n ((d, v) :: L) rest w N) : TL P ops n L (⟨some d, .extract x i, ty, ps, af, g⟩ :: rest) w N :=
  TL.ev hg hd (Ev.extract hx hv) k

/-- integers -/
def arith : BinOp → IntKind → Int → Int → Option Int
  | .add, k, x, y => some (k.wrap (x + y))
  | .sub, k, x, y => some (k.wrap (x - y))
  | .mul, k, x, y => some (k.wrap (x * y))
  | .quo, k, x, y => if y = 0 then none else some (k.wrap (x.tdiv y))
  | .rem, _, x, y => if y = 0 then none else some (x.tmod y)
  | .and, k, x, y => some (k.wrap (BitVec.ofInt k.bits x &&& BitVec.ofInt k.bits y).toNat)
  | .or, k, x, y => some (k.wrap (BitVec.ofInt k.bits x ||| BitVec.ofInt k.bits y).toNat)
  | .xor, k, x, y => some (k.wrap (BitVec.ofInt k.bits x ^^^ BitVec.ofInt k.bits y).toNat)
  | .andNot, k, x, y => some (k.wrap (BitVec.ofInt k.bits x &&& ~~~(BitVec.ofInt k.bits y)).toNat)
  | _, _, _, _ => none
def cmpI : BinOp → Int → Int → Option Bool
  | .eql, x, y => some (x == y)
  | .neq, x, y => some (x != y)
  | .lss, x, y => some (decide (x < y))
  | .leq, x, y => some (decide (x ≤ y))
  | .gtr, x, y => some (decide (x > y))
  | .geq, x, y => some (decide (x ≥ y))
  | _, _, _ => none
theorem Ev.arith {op : BinOp} {t t' : TypeId} {x y : Operand} {kd : IntKind} {a b c : Int}  (hx : opv L x = some (.int kd a)) (hy : opv L y = some (.int kd b))
    (hv : arith op kd a b = some c) : Ev P n L ⟨some d, .binOp op t x y t', ty, ps, af, g⟩ (.int kd c) w := by
  intro s ha
  cases op <;> simp only [Fw.arith, reduceCtorEq] at hv
  case quo =>
    by_cases hb : b = 0
    · simp [hb] at hv
    · simp [hb] at hv; simp [execOp, eqGuard, binOp, ha.eval hx, ha.eval hy, Op.intDiv, hb, hv]
  case rem =>
    by_cases hb : b = 0
    · simp [hb] at hv
    · simp [hb] at hv; simp [execOp, eqGuard, binOp, ha.eval hx, ha.eval hy, Op.intDiv, hb, hv]
  all_goals (simp only [Option.some.injEq] at hv; subst hv; simp [execOp, eqGuard, binOp, ha.eval hx, ha.eval hy, Op.intArith, Op.intBits])
theorem TL.arith {op : BinOp} {t t' : TypeId} {x y : Operand} {kd : IntKind} {a b c : Int} (hg : gd ops L g = some true) (hd : Nat.blt d n = true) (hx : opv L x = some (.int kd a)) (hy : opv L y = some (.int kd b))
    (hv : arith op kd a b = some c) (k : TL P ops n ((d, .int kd c) :: L) rest w N) : TL P ops n L (⟨some d, .binOp op t x y t', ty, ps, af, g⟩ :: rest) w N :=
  TL.ev hg hd (Ev.arith hx hy hv) k
theorem Ev.cmpI {op : BinOp} {t t' : TypeId} {x y : Operand} {kd : IntKind} {a b : Int} {c : Bool}  (hx : opv L x = some (.int kd a)) (hy : opv L y = some (.int kd b))
    (hv : cmpI op a b = some c) : Ev P n L ⟨some d, .binOp op t x y t', ty, ps, af, g⟩ (.bool c) w := by
  intro s ha
  cases op <;> simp only [Fw.cmpI, reduceCtorEq, Option.some.injEq] at hv <;> subst hv <;> simp [execOp, eqGuard, binOp, ha.eval hx, ha.eval hy, Op.intCmp]
theorem TL.cmpI {op : BinOp} {t t' : TypeId} {x y : Operand} {kd : IntKind} {a b : Int} {c : Bool} (hg : gd ops L g = some true) (hd : Nat.blt d n = true) (hx : opv L x = some (.int kd a)) (hy : opv L y = some (.int kd b))
    (hv : cmpI op a b = some c) (k : TL P ops n ((d, .bool c) :: L) rest w N) : TL P ops n L (⟨some d, .binOp op t x y t', ty, ps, af, g⟩ :: rest) w N :=
  TL.ev hg hd (Ev.cmpI hx hy hv) k
theorem Ev.shl {t t' : TypeId} {x y : Operand} {kd ky : IntKind} {a b : Int}  (hx : opv L x = some (.int kd a)) (hy : opv L y = some (.int ky b)) (hb : 0 ≤ b) : Ev P n L ⟨some d, .binOp .shl t x y t', ty, ps, af, g⟩ (.int kd (kd.wrap (a * 2 ^ (min b.toNat kd.bits)))) w :=
  (fun s ha => by simp [execOp, eqGuard, binOp, ha.eval hx, ha.eval hy, Op.shift, Int.not_lt.2 hb])
theorem TL.shl {t t' : TypeId} {x y : Operand} {kd ky : IntKind} {a b : Int} (hg : gd ops L g = some true) (hd : Nat.blt d n = true) (hx : opv L x = some (.int kd a)) (hy : opv L y = some (.int ky b)) (hb : 0 ≤ b)
    (k : TL P ops n ((d, .int kd (kd.wrap (a * 2 ^ (min b.toNat kd.bits)))) :: L) rest w N) : TL P ops n L (⟨some d, .binOp .shl t x y t', ty, ps, af, g⟩ :: rest) w N :=
  TL.ev hg hd (Ev.shl hx hy hb) k
theorem Ev.shr {t t' : TypeId} {x y : Operand} {kd ky : IntKind} {a b : Int}  (hx : opv L x = some (.int kd a)) (hy : opv L y = some (.int ky b)) (hb : 0 ≤ b) : Ev P n L ⟨some d, .binOp .shr t x y t', ty, ps, af, g⟩ (.int kd (a.fdiv (2 ^ (min b.toNat kd.bits)))) w :=
  (fun s ha => by simp [execOp, eqGuard, binOp, ha.eval hx, ha.eval hy, Op.shift, Int.not_lt.2 hb])
theorem TL.shr {t t' : TypeId} {x y : Operand} {kd ky : IntKind} {a b : Int} (hg : gd ops L g = some true) (hd : Nat.blt d n = true) (hx : opv L x = some (.int kd a)) (hy : opv L y = some (.int ky b)) (hb : 0 ≤ b)
    (k : TL P ops n ((d, .int kd (a.fdiv (2 ^ (min b.toNat kd.bits)))) :: L) rest w N) : TL P ops n L (⟨some d, .binOp .shr t x y t', ty, ps, af, g⟩ :: rest) w N :=
  TL.ev hg hd (Ev.shr hx hy hb) k
theorem Ev.not {t : TypeId} {x : Operand} {b : Bool}  (hx : opv L x = some (.bool b)) : Ev P n L ⟨some d, .unOp .not t x, ty, ps, af, g⟩ (.bool (!b)) w :=
  (fun s ha => by simp [execOp, ha.eval hx, Op.unary])
theorem TL.not {t : TypeId} {x : Operand} {b : Bool} (hg : gd ops L g = some true) (hd : Nat.blt d n = true) (hx : opv L x = some (.bool b))
    (k : TL P ops n ((d, .bool (!b)) :: L) rest w N) : TL P ops n L (⟨some d, .unOp .not t x, ty, ps, af, g⟩ :: rest) w N :=
  TL.ev hg hd (Ev.not hx) k
theorem Ev.convI {s t : TypeId} {ds : TypeDesc} {kd : IntKind} [hs : Und P s ds] [ht : Und P t (.int kd)] {x : Operand} {k0 : IntKind} {a : Int}  (hx : opv L x = some (.int k0 a)) : Ev P n L ⟨some d, .convert s t x, ty, ps, af, g⟩ (.int kd (kd.wrap a)) w := by
  intro a ha
  simp only [execOp, convert, Sem.run_bind, run_underlying hs.out, run_underlying ht.out, ha.eval hx, Result.andThen_ok]
  cases ds <;> simp [Conv.intToInt]
theorem TL.convI {s t : TypeId} {ds : TypeDesc} {kd : IntKind} [hs : Und P s ds] [ht : Und P t (.int kd)] {x : Operand} {k0 : IntKind} {a : Int} (hg : gd ops L g = some true) (hd : Nat.blt d n = true) (hx : opv L x = some (.int k0 a))
    (k : TL P ops n ((d, .int kd (kd.wrap a)) :: L) rest w N) : TL P ops n L (⟨some d, .convert s t x, ty, ps, af, g⟩ :: rest) w N :=
  TL.ev hg hd (Ev.convI hx) k
theorem Ev.lenS {t e : TypeId} [ht : Und P t (.slice e)] {x : Operand} {a : Option Addr} {m c : Nat}  (hx : opv L x = some (.slice a m c)) : Ev P n L ⟨some d, .call ⟨.builtin .len, #[x], #[t]⟩, ty, ps, af, g⟩ (.int .i64 m) w :=
  (fun s ha => by simp [execOp, resolve, invoke, builtin, Builtin.len_, run_underlying ht.out, ha.eval hx, goInt])
theorem TL.lenS {t e : TypeId} [ht : Und P t (.slice e)] {x : Operand} {a : Option Addr} {m c : Nat} (hg : gd ops L g = some true) (hd : Nat.blt d n = true) (hx : opv L x = some (.slice a m c))
    (k : TL P ops n ((d, .int .i64 m) :: L) rest w N) : TL P ops n L (⟨some d, .call ⟨.builtin .len, #[x], #[t]⟩, ty, ps, af, g⟩ :: rest) w N :=
  TL.ev hg hd (Ev.lenS hx) k
theorem Ev.lenStr {t : TypeId} [ht : Und P t .string] {x : Operand} {s : ByteArray}  (hx : opv L x = some (.string s)) : Ev P n L ⟨some d, .call ⟨.builtin .len, #[x], #[t]⟩, ty, ps, af, g⟩ (.int .i64 s.size) w :=
  (fun s ha => by simp [execOp, resolve, invoke, builtin, Builtin.len_, run_underlying ht.out, ha.eval hx, goInt])
theorem TL.lenStr {t : TypeId} [ht : Und P t .string] {x : Operand} {s : ByteArray} (hg : gd ops L g = some true) (hd : Nat.blt d n = true) (hx : opv L x = some (.string s))
    (k : TL P ops n ((d, .int .i64 s.size) :: L) rest w N) : TL P ops n L (⟨some d, .call ⟨.builtin .len, #[x], #[t]⟩, ty, ps, af, g⟩ :: rest) w N :=
  TL.ev hg hd (Ev.lenStr hx) k
theorem Ev.maxI {t : TypeId} {x y : Operand} {kd ky : IntKind} {a b : Int}  (hx : opv L x = some (.int kd a)) (hy : opv L y = some (.int ky b)) : Ev P n L ⟨some d, .call ⟨.builtin .max, #[x, y], #[t, t]⟩, ty, ps, af, g⟩ (.int kd (if b > a then b else a)) w :=
  (fun s ha => by simp [execOp, resolve, invoke, builtin, Builtin.max_, Builtin.max2, ha.eval hx, ha.eval hy])
theorem TL.maxI {t : TypeId} {x y : Operand} {kd ky : IntKind} {a b : Int} (hg : gd ops L g = some true) (hd : Nat.blt d n = true) (hx : opv L x = some (.int kd a)) (hy : opv L y = some (.int ky b))
    (k : TL P ops n ((d, .int kd (if b > a then b else a)) :: L) rest w N) : TL P ops n L (⟨some d, .call ⟨.builtin .max, #[x, y], #[t, t]⟩, ty, ps, af, g⟩ :: rest) w N :=
  TL.ev hg hd (Ev.maxI hx hy) k
theorem Ev.minI {t : TypeId} {x y : Operand} {kd ky : IntKind} {a b : Int}  (hx : opv L x = some (.int kd a)) (hy : opv L y = some (.int ky b)) : Ev P n L ⟨some d, .call ⟨.builtin .min, #[x, y], #[t, t]⟩, ty, ps, af, g⟩ (.int kd (if b < a then b else a)) w :=
  (fun s ha => by simp [execOp, resolve, invoke, builtin, Builtin.min_, Builtin.min2, ha.eval hx, ha.eval hy])
theorem TL.minI {t : TypeId} {x y : Operand} {kd ky : IntKind} {a b : Int} (hg : gd ops L g = some true) (hd : Nat.blt d n = true) (hx : opv L x = some (.int kd a)) (hy : opv L y = some (.int ky b))
    (k : TL P ops n ((d, .int kd (if b < a then b else a)) :: L) rest w N) : TL P ops n L (⟨some d, .call ⟨.builtin .min, #[x, y], #[t, t]⟩, ty, ps, af, g⟩ :: rest) w N :=
  TL.ev hg hd (Ev.minI hx hy) k

/-- calls -/
theorem TL.callV {c : Operand} {f : FuncId} {fs cs : Array Value} [hc : Cal P f] {xs : List Operand} {ts : Array TypeId} {vs : List Value} {R0 : Value → World → Prop} (hg : gd ops L g = some true) (hd : Nat.blt d n = true)
    (hv : opv L c = some (.func (.func f) fs cs)) (ha : opvs L xs = some vs) (hcall : Ret P f (fs ++ vs.toArray ++ cs) w R0)
    (k : ∀ v w', R0 v w' → TL P ops n ((d, v) :: L) rest w' N) : TL P ops n L (⟨some d, .call ⟨.value c, xs.toArray, ts⟩, ty, ps, af, g⟩ :: rest) w N := by
  obtain ⟨fn, hf, hb, hn⟩ := hc.out
  intro Q s hs qn
  refine wpList_step fun K hK => ?_
  rw [gd_wanted hs (o := ⟨some d, .call ⟨.value c, xs.toArray, ts⟩, ty, ps, af, g⟩) hg]
  have hrun : (execOp s.eval ⟨some d, .call ⟨.value c, xs.toArray, ts⟩, ty, ps, af, g⟩).run P w = .ok (.enter f (fs ++ vs.toArray ++ cs)) w := by
    have hn' : ¬ fn.name = "runtime.NumGoroutine" := by simpa using hn
    have hb' : ¬ fn.body = none := fun h => by simp [h] at hb
    simp [execOp, resolve, Deferred.ofValue, invoke, callFunc, hs.eval hv, opvs_eval hs ha, hf, hb', hn']
  simp only [if_true, Oper.wp, hrun, Oper.upon_enter]
  refine Calls.mono hcall fun e w' ⟨v, he, hr⟩ => ?_
  subst he
  exact hK _ _ (k v w' hr Q _ (hs.put hd _) qn)
theorem TL.call {f : FuncId} [hc : Cal P f] {xs : List Operand} {ts : Array TypeId} {vs : List Value} {R0 : Value → World → Prop} (hg : gd ops L g = some true) (hd : Nat.blt d n = true)
    (ha : opvs L xs = some vs) (hcall : Ret P f vs.toArray w R0)
    (k : ∀ v w', R0 v w' → TL P ops n ((d, v) :: L) rest w' N) : TL P ops n L (⟨some d, .call ⟨.value (.func f), xs.toArray, ts⟩, ty, ps, af, g⟩ :: rest) w N :=
  TL.callV hg hd (c := .func f) (fs := #[]) (cs := #[]) rfl ha (by simpa using hcall) k
end ops
end

/-- Of what a frame's result slots hold. -/
def resv : List ResultVar → Sl → Option Value
  | [.tmp t], L => lk L t
  | [], _ => some (.tuple #[])
  | [.tmp t, .tmp u], L => match lk L t, lk L u with
    | some v, some x => some (.tuple #[v, x])
    | _, _ => none
  | [.tmp t, .tmp u, .tmp s], L => match lk L t, lk L u, lk L s with
    | some v, some x, some y => some (.tuple #[v, x, y])
    | _, _, _ => none
  | _, _ => none

theorem run_results {P : Program} {fn : Func} {rs : List ResultVar} {n : Nat} {L : Sl} {a : Act} {w : World} {v : Value} (hrs : fn.results = rs.toArray) (ha : Fr n L a) (hv : resv rs L = some v) :
    (results fn a.tmps).run P w = .ok v w := by
  unfold resv at hv
  split at hv
  · have := ha.slot _ v hv
    simp [results, hrs, this]
  · simp at hv; subst hv; simp [results, hrs]
  · split at hv
    · rename_i h1 h2
      have e1 := ha.slot _ _ h1
      have e2 := ha.slot _ _ h2
      simp at hv; subst hv; simp [results, hrs, e1, e2]
    · simp at hv
  · split at hv
    · rename_i h1 h2 h3
      have e1 := ha.slot _ _ h1
      have e2 := ha.slot _ _ h2
      have e3 := ha.slot _ _ h3
      simp at hv; subst hv; simp [results, hrs, e1, e2, e3]
    · simp at hv
  · simp at hv

/-- The slots at a call's beginning. -/
def args0 : Nat → List Value → Sl
  | _, [] => []
  | i, v :: vs => (i, v) :: args0 (i + 1) vs

theorem lk_args0 : ∀ (vs : List Value) (i j : Nat) (v : Value), lk (args0 i vs) j = some v → i ≤ j ∧ vs[j - i]? = some v
  | [], _, _, _, h => by simp [args0, lk] at h
  | u :: vs, i, j, v, h => by
    simp only [args0, lk] at h
    by_cases e : i = j
    · subst e; simp at h; subst h; simp
    · simp only [beq_ne e, cond_false] at h
      obtain ⟨h1, h2⟩ := lk_args0 vs (i + 1) j v h
      refine ⟨by omega, ?_⟩
      obtain ⟨k, rfl⟩ : ∃ k, j = i + 1 + k := ⟨j - (i + 1), by omega⟩
      rw [show i + 1 + k - i = k + 1 from by omega]
      simpa using h2

theorem Ret.of_T {P : Program} {f : FuncId} {fn : Func} {c : Code} {n : Nat} {args : List Value} {w : World} {R : Value → World → Prop} (hf : P.funcs[f]? = some fn) (hb : fn.body = some c) (hn : fn.ntmps = n)
    {rs : List ResultVar} (hrs : fn.results = rs.toArray) (hsz : Nat.ble args.length n = true)
    (h : T P n (fun L w' => ∃ v, resv rs L = some v ∧ R v w') (fun _ _ _ => False) (fun L w' => ∃ v, resv rs L = some v ∧ R v w') (args0 0 args) c w) : Ret P f args.toArray w R := by
  have hsz' : args.length ≤ n := Nat.le_of_ble_eq_true hsz
  refine calls_of_wp hf hb (h _ _ ⟨?_, rfl, ?_⟩ ?_ ?_ ?_)
  · simp [hn]; omega
  · intro i v hi
    obtain ⟨_, h2⟩ := lk_args0 args 0 i v hi
    simp at h2
    have hlt : i < args.length := (List.getElem?_eq_some_iff.1 h2).1
    rw [Array.getElem?_append_left (by simpa using hlt)]
    simpa using h2
  · intro L' a' w' ha' ⟨v, hv, hr⟩
    exact ⟨ha'.defers, v, run_results hrs ha' hv, v, rfl, hr⟩
  · intro _ _ _ _ _ hx; exact hx.elim
  · intro L' a' w' ha' ⟨v, hv, hr⟩
    exact ⟨ha'.defers, v, run_results hrs ha' hv, v, rfl, hr⟩

/-- The end of a walk: what is handed back. -/
theorem ret_intro {rs : List ResultVar} {L : Sl} {R : Value → World → Prop} {w : World} {v : Value} (hv : resv rs L = some v) (h : R v w) : ∃ v, resv rs L = some v ∧ R v w := ⟨v, hv, h⟩
end Go.Fw
