/- The sums' words: operations on words of 32 bits, and what bits.RotateLeft32 comes to. Conditions: as each theorem says. -/
import Derived.Test.YtflioeagjefkmaaDoorFwE
import Derived.Test.YtflioeagjefkmaaDoorByt
set_option linter.all false
namespace Go.Fw

/-- a word of 32 bits -/
def vu (x : UInt32) : Value := .int .u32 (x.toNat : Int)
theorem vu_oneCell (x : UInt32) : (vu x).oneCell' = true := rfl

theorem u32_wrap_nat (m : Nat) : IntKind.u32.wrap (m : Int) = ((UInt32.ofNat m).toNat : Int) := by
  unfold IntKind.wrap; simp [IntKind.bits, IntKind.signed]
theorem u32_add (x y : UInt32) : IntKind.u32.wrap ((x.toNat : Int) + (y.toNat : Int)) = ((x + y).toNat : Int) := by
  rw [← Int.natCast_add, u32_wrap_nat]
  congr 1
  all_goals simp
theorem u32_bv (x : UInt32) : BitVec.ofInt IntKind.u32.bits (x.toNat : Int) = x.toBitVec := by
  simp [IntKind.bits]
theorem u32_of_bv (b : BitVec 32) : IntKind.u32.wrap (b.toNat : Int) = ((UInt32.ofBitVec b).toNat : Int) := by
  rw [u32_wrap_nat]; simp [UInt32.toNat]

section
variable {P : Program} {n : Nat} {L : Sl} {w : World} {d : Nat} {ty : TypeId} {ps : String} {af : Array Edge} {g : Option (Nat × Bool)}
def uop : BinOp → UInt32 → UInt32 → Option UInt32
  | .add, x, y => some (x + y)
  | .xor, x, y => some (x ^^^ y)
  | .and, x, y => some (x &&& y)
  | .or, x, y => some (x ||| y)
  | _, _, _ => none
theorem Ev.uop {op : BinOp} {t t' : TypeId} {x y : Operand} {a b c : UInt32} (hx : opv L x = some (vu a)) (hy : opv L y = some (vu b)) (hv : Go.Fw.uop op a b = some c) : Ev P n L ⟨some d, .binOp op t x y t', ty, ps, af, g⟩ (vu c) w := by
  have h := fun (c' : Int) (hc : Fw.arith op .u32 (a.toNat : Int) (b.toNat : Int) = some c') => Ev.arith (P := P) (n := n) (L := L) (w := w) (d := d) (t := t) (t' := t') (ty := ty) (ps := ps) (af := af) (g := g) (op := op) (kd := .u32) hx hy hc
  cases op <;> simp only [Go.Fw.uop, reduceCtorEq, Option.some.injEq] at hv <;> subst hv
  · have := h _ rfl; rw [u32_add] at this; exact this
  · have := h _ rfl; rw [u32_bv, u32_bv] at this; erw [u32_of_bv] at this; exact this
  · have := h _ rfl; rw [u32_bv, u32_bv] at this; erw [u32_of_bv] at this; exact this
  · have := h _ rfl; rw [u32_bv, u32_bv] at this; erw [u32_of_bv] at this; exact this
theorem Ev.ushl {t t' : TypeId} {x y : Operand} {a : UInt32} {ky : IntKind} {k : Nat} (hx : opv L x = some (vu a)) (hy : opv L y = some (.int ky (k : Int))) (hk : Nat.blt k 32 = true) :
    Ev P n L ⟨some d, .binOp .shl t x y t', ty, ps, af, g⟩ (vu (a <<< UInt32.ofNat k)) w := by
  have hk' : k < 32 := by simpa [Nat.blt_eq] using hk
  have h := Ev.shl (P := P) (n := n) (L := L) (w := w) (d := d) (t := t) (t' := t') (ty := ty) (ps := ps) (af := af) (g := g) (kd := .u32) hx hy (by omega)
  have e : IntKind.u32.wrap ((a.toNat : Int) * 2 ^ (min (k : Int).toNat IntKind.u32.bits)) = ((a <<< UInt32.ofNat k).toNat : Int) := by
    have hmin : min (k : Int).toNat IntKind.u32.bits = k := by simp [IntKind.bits]; omega
    rw [hmin]
    have e1 : (a.toNat : Int) * 2 ^ k = ((a.toNat * 2 ^ k : Nat) : Int) := by push_cast; rfl
    rw [e1, u32_wrap_nat]
    congr 1
    have hlt : (k % 2 ^ 32) % 32 = k := by omega
    simp [hlt, Nat.shiftLeft_eq]
  rw [e] at h; exact h
theorem Ev.ushr {t t' : TypeId} {x y : Operand} {a : UInt32} {ky : IntKind} {k : Nat} (hx : opv L x = some (vu a)) (hy : opv L y = some (.int ky (k : Int))) (hk : Nat.blt k 32 = true) :
    Ev P n L ⟨some d, .binOp .shr t x y t', ty, ps, af, g⟩ (vu (a >>> UInt32.ofNat k)) w := by
  have hk' : k < 32 := by simpa [Nat.blt_eq] using hk
  have h := Ev.shr (P := P) (n := n) (L := L) (w := w) (d := d) (t := t) (t' := t') (ty := ty) (ps := ps) (af := af) (g := g) (kd := .u32) hx hy (by omega)
  have e : (a.toNat : Int).fdiv (2 ^ (min (k : Int).toNat IntKind.u32.bits)) = ((a >>> UInt32.ofNat k).toNat : Int) := by
    have hmin : min (k : Int).toNat IntKind.u32.bits = k := by simp [IntKind.bits]; omega
    rw [hmin, fdiv_nat]
    congr 1
    have hlt : (k % 2 ^ 32) % 32 = k := by omega
    simp [hlt, Nat.shiftRight_eq_div_pow]
  rw [e] at h; exact h
theorem Ev.unot {t : TypeId} {x : Operand} {a : UInt32} (hx : opv L x = some (vu a)) : Ev P n L ⟨some d, .unOp .xor t x, ty, ps, af, g⟩ (vu (~~~a)) w := by
  intro s hs
  have key : ∀ m : BitVec 32, m = BitVec.allOnes 32 → (m ^^^ a.toBitVec) = ~~~a.toBitVec := fun m hm => by rw [hm]; exact BitVec.allOnes_xor
  have hm : (BitVec.ofInt 32 IntKind.u32.max : BitVec 32) = BitVec.allOnes 32 := by decide
  have hv : s.eval x = .int .u32 (a.toNat : Int) := hs.eval hx
  have hb := u32_bv a
  have hk := key _ hm
  have hw := u32_of_bv (~~~a.toBitVec)
  have e : (Op.intBits .xor .u32 IntKind.u32.max (a.toNat : Int)) = pure (vu (~~~a)) := by
    unfold Op.intBits
    simp only []
    show (pure (Value.int .u32 (IntKind.u32.wrap ((BitVec.ofInt 32 IntKind.u32.max ^^^ BitVec.ofInt 32 (a.toNat : Int)).toNat : Int))) : Sem Value) = _
    rw [show BitVec.ofInt 32 (a.toNat : Int) = a.toBitVec from hb, hk, hw]
    rfl
  simp only [execOp, hv, Op.unary]
  simp only [IntKind.signed, Bool.false_eq_true, if_false, e]
  simp
theorem Ev.u8u32 {s t : TypeId} {ds : TypeDesc} [hs : Und P s ds] [ht : Und P t (.int .u32)] {x : Operand} {b : UInt8} (hx : opv L x = some (vb b)) : Ev P n L ⟨some d, .convert s t x, ty, ps, af, g⟩ (vu b.toUInt32) w := by
  have h := Ev.convI (P := P) (n := n) (L := L) (w := w) (d := d) (s := s) (t := t) (ty := ty) (ps := ps) (af := af) (g := g) hx
  have e : IntKind.u32.wrap (b.toNat : Int) = (b.toUInt32.toNat : Int) := by
    rw [u32_wrap_nat]; congr 1; simp
  rw [e] at h; exact h
/-- an element of an array value -/
theorem Ev.indexA {t e : TypeId} {len : Nat} [ht : Und P t (.array len e)] {by_ : Nat} {z : Value} [hi : Inf P e 1 by_ z] [ha : Ag P e false] {x y : Operand} {cs : List Value} {ki : IntKind} {j : Nat} {v : Value} (hx : opv L x = some (.agg cs.toArray)) (hy : opv L y = some (.int ki (j : Int)))
    (hj : j < len) (hv : cs[j]? = some v) : Ev P n L ⟨some d, .index t x y, ty, ps, af, g⟩ v w := by
  obtain ⟨i, hinf, hsz, _, _⟩ := hi.out
  obtain ⟨td, hu, hs⟩ := ha.get
  intro s hs'
  have h0 : (0 : Int) ≤ (j : Int) ∧ (j : Int) < (len : Int) := by omega
  have hsizeOf : (sizeOf e).run P w = .ok 1 w := by simp [sizeOf, typeInfo, hinf, hsz]
  simp only [execOp, Instr.index, hs'.eval hx, hs'.eval hy, asIntOf, Sem.run_bind, Sem.run_pure, Result.andThen_ok, run_underlying ht.out, if_pos h0, hsizeOf, part, run_isAgg hu, hs]
  simp [hv]
end
end Go.Fw

namespace Go.Proofs
open Go.Fw Go.RowKit
attribute [local irreducible] TL T TS Ev Ret

/-- turned to the right -/
def rotr (x : UInt32) (k : Nat) : UInt32 := (x <<< UInt32.ofNat (32 - k)) ||| (x >>> UInt32.ofNat k)

theorem Rot_ret (x : UInt32) (k : Nat) (w : World) (hk : k = 2 ∨ k = 6 ∨ k = 7 ∨ k = 11 ∨ k = 13 ∨ k = 17 ∨ k = 18 ∨ k = 19 ∨ k = 22 ∨ k = 25) :
    Ret Tryd.prog 126 #[vu x, .int .i64 (-(k : Int))] w fun v w' => v = vu (rotr x k) ∧ w' = w := by
  have hk1 : 1 ≤ k ∧ k < 32 := by omega
  have e1 : IntKind.u64.wrap (BitVec.ofInt IntKind.u64.bits (IntKind.u64.wrap (-(k : Int))) &&& BitVec.ofInt IntKind.u64.bits 31).toNat = ((32 - k : Nat) : Int) := by
    rcases hk with rfl | rfl | rfl | rfl | rfl | rfl | rfl | rfl | rfl | rfl <;> decide
  have e2 : IntKind.u64.wrap (32 - ((32 - k : Nat) : Int)) = (k : Int) := by rw [wr_u64 (by omega) (by omega)]; omega
  clear hk
  refine Ret.of_T Tryd.func126 rfl Tryd.ntmps126 Tryd.results126 rfl ?_
  repeat (first | refine TL.move rfl rfl rfl ?_ | refine TL.assign rfl rfl rfl ?_ | refine TL.nilCheck rfl rfl rfl ?_ | refine TL.fieldAddr rfl rfl rfl ?_ | refine TL.convI rfl rfl rfl ?_ | refine TL.cmpI rfl rfl rfl rfl rfl ?_ | refine TL.arith rfl rfl rfl rfl rfl ?_ | refine TL.lenS rfl rfl rfl ?_ | refine TL.lenStr rfl rfl rfl ?_ | refine TL.not rfl rfl rfl ?_ | refine TL.skipG rfl rfl ?_ | refine TL.pickT rfl rfl rfl rfl ?_ | refine TL.pickF rfl rfl rfl rfl ?_ | refine TL.extract rfl rfl rfl rfl ?_ | refine TL.maxI rfl rfl rfl rfl ?_ | refine TL.minI rfl rfl rfl rfl ?_ | refine TL.nilCheckF rfl rfl rfl ?_ | refine TL.nil ?_ | refine T.seqK fun K hK => ?_ | (refine T.regionO fun ops => ?_) | refine T.condT rfl ?_ | refine T.condF rfl ?_ | refine T.block ?_ | refine T.skip ?_ | refine T.ret ?_ | refine T.exit ?_ | (refine hK _ _ ?_; clear hK K) | clear hK K | clear ops)
  rw [e1]
  refine TL.ev rfl rfl (Ev.ushl rfl rfl (by simpa [Nat.blt_eq] using (by omega : 32 - k < 32))) ?_
  repeat (first | refine TL.move rfl rfl rfl ?_ | refine TL.assign rfl rfl rfl ?_ | refine TL.nilCheck rfl rfl rfl ?_ | refine TL.fieldAddr rfl rfl rfl ?_ | refine TL.convI rfl rfl rfl ?_ | refine TL.cmpI rfl rfl rfl rfl rfl ?_ | refine TL.arith rfl rfl rfl rfl rfl ?_ | refine TL.lenS rfl rfl rfl ?_ | refine TL.lenStr rfl rfl rfl ?_ | refine TL.not rfl rfl rfl ?_ | refine TL.skipG rfl rfl ?_ | refine TL.pickT rfl rfl rfl rfl ?_ | refine TL.pickF rfl rfl rfl rfl ?_ | refine TL.extract rfl rfl rfl rfl ?_ | refine TL.maxI rfl rfl rfl rfl ?_ | refine TL.minI rfl rfl rfl rfl ?_ | refine TL.nilCheckF rfl rfl rfl ?_ | refine TL.nil ?_ | refine T.seqK fun K hK => ?_ | (refine T.regionO fun ops => ?_) | refine T.condT rfl ?_ | refine T.condF rfl ?_ | refine T.block ?_ | refine T.skip ?_ | refine T.ret ?_ | refine T.exit ?_ | (refine hK _ _ ?_; clear hK K) | clear hK K | clear ops)
  rw [e2]
  refine TL.ev rfl rfl (Ev.ushr rfl rfl (by simpa [Nat.blt_eq] using hk1.2)) ?_
  refine TL.ev rfl rfl (Ev.uop rfl rfl rfl) ?_
  repeat (first | refine TL.move rfl rfl rfl ?_ | refine TL.assign rfl rfl rfl ?_ | refine TL.nilCheck rfl rfl rfl ?_ | refine TL.fieldAddr rfl rfl rfl ?_ | refine TL.convI rfl rfl rfl ?_ | refine TL.cmpI rfl rfl rfl rfl rfl ?_ | refine TL.arith rfl rfl rfl rfl rfl ?_ | refine TL.lenS rfl rfl rfl ?_ | refine TL.lenStr rfl rfl rfl ?_ | refine TL.not rfl rfl rfl ?_ | refine TL.skipG rfl rfl ?_ | refine TL.pickT rfl rfl rfl rfl ?_ | refine TL.pickF rfl rfl rfl rfl ?_ | refine TL.extract rfl rfl rfl rfl ?_ | refine TL.maxI rfl rfl rfl rfl ?_ | refine TL.minI rfl rfl rfl rfl ?_ | refine TL.nilCheckF rfl rfl rfl ?_ | refine TL.nil ?_ | refine T.seqK fun K hK => ?_ | (refine T.regionO fun ops => ?_) | refine T.condT rfl ?_ | refine T.condF rfl ?_ | refine T.block ?_ | refine T.skip ?_ | refine T.ret ?_ | refine T.exit ?_ | (refine hK _ _ ?_; clear hK K) | clear hK K | clear ops)
  exact ⟨_, rfl, rfl, rfl⟩

/-- the four bytes of a word -/
def be4 (a b c d : UInt8) : UInt32 := ((a.toUInt32 <<< UInt32.ofNat 24 ||| b.toUInt32 <<< UInt32.ofNat 16) ||| c.toUInt32 <<< UInt32.ofNat 8) ||| d.toUInt32
def wd (l : List UInt8) (i : Nat) : UInt32 := be4 (l.getD (4 * i) 0) (l.getD (4 * i + 1) 0) (l.getD (4 * i + 2) 0) (l.getD (4 * i + 3) 0)
def sg (x : UInt32) : UInt32 := (rotr x 7 ^^^ rotr x 18) ^^^ (x >>> UInt32.ofNat 3)
def tg (x : UInt32) : UInt32 := (rotr x 17 ^^^ rotr x 19) ^^^ (x >>> UInt32.ofNat 10)
/-- one word more -/
def ext (W : List UInt32) (i : Nat) : List UInt32 := W.set i (W.getD (i - 16) 0 + sg (W.getD (i - 15) 0) + W.getD (i - 7) 0 + tg (W.getD (i - 2) 0))
def first16 (l : List UInt8) (k : Nat) : List UInt32 := (List.range k).map (wd l) ++ List.replicate (64 - k) 0
def sched (l : List UInt8) : Nat → List UInt32
  | 0 => first16 l 16
  | k + 1 => ext (sched l k) (16 + k)
theorem first16_len (l : List UInt8) (k : Nat) (h : k ≤ 64) : (first16 l k).length = 64 := by simp [first16]; omega
theorem sched_len (l : List UInt8) (k : Nat) : (sched l k).length = 64 := by
  induction k with
  | zero => exact first16_len l 16 (by omega)
  | succ k ih => simp [sched, ext, ih]
theorem first16_succ (l : List UInt8) (k : Nat) (h : k < 64) : (first16 l k).set k (wd l k) = first16 l (k + 1) := by
  unfold first16
  have e : 64 - k = (64 - (k + 1)) + 1 := by omega
  rw [e, List.replicate_succ, List.range_succ, List.map_append]
  have : ((List.range k).map (wd l)).length = k := by simp
  rw [List.set_append]
  simp
/-- the constants -/
def kw : List UInt32 := [0x428a2f98, 0x71374491, 0xb5c0fbcf, 0xe9b5dba5, 0x3956c25b, 0x59f111f1, 0x923f82a4, 0xab1c5ed5, 0xd807aa98, 0x12835b01, 0x243185be, 0x550c7dc3, 0x72be5d74, 0x80deb1fe, 0x9bdc06a7, 0xc19bf174,
  0xe49b69c1, 0xefbe4786, 0x0fc19dc6, 0x240ca1cc, 0x2de92c6f, 0x4a7484aa, 0x5cb0a9dc, 0x76f988da, 0x983e5152, 0xa831c66d, 0xb00327c8, 0xbf597fc7, 0xc6e00bf3, 0xd5a79147, 0x06ca6351, 0x14292967,
  0x27b70a85, 0x2e1b2138, 0x4d2c6dfc, 0x53380d13, 0x650a7354, 0x766a0abb, 0x81c2c92e, 0x92722c85, 0xa2bfe8a1, 0xa81a664b, 0xc24b8b70, 0xc76c51a3, 0xd192e819, 0xd6990624, 0xf40e3585, 0x106aa070,
  0x19a4c116, 0x1e376c08, 0x2748774c, 0x34b0bcb5, 0x391c0cb3, 0x4ed8aa4a, 0x5b9cca4f, 0x682e6ff3, 0x748f82ee, 0x78a5636f, 0x84c87814, 0x8cc70208, 0x90befffa, 0xa4506ceb, 0xbef9a3f7, 0xc67178f2]
/-- one round -/
def rnd (v : List UInt32) (k x : UInt32) : List UInt32 :=
  match v with
  | [a, b, c, d, e, f, g, h] =>
    let t := h + ((rotr e 6 ^^^ rotr e 11) ^^^ rotr e 25) + ((e &&& f) ^^^ (~~~e &&& g)) + k + x
    let u := ((rotr a 2 ^^^ rotr a 13) ^^^ rotr a 22) + (((a &&& b) ^^^ (a &&& c)) ^^^ (b &&& c))
    [t + u, a, b, c, d + t, e, f, g]
  | v => v
def rounds (W : List UInt32) (v : List UInt32) : Nat → List UInt32
  | 0 => v
  | k + 1 => rnd (rounds W v k) (kw.getD k 0) (W.getD k 0)
/-- a state behind 64 bytes more -/
def blockF (h : List UInt32) (l : List UInt8) : List UInt32 := List.zipWith (· + ·) h (rounds (sched l 48) h 64)

/-- The constants lie where they were laid. -/
def KW (w : World) : Prop := 3 < w.heap.size ∧ ∀ (j : Nat) (u : Value), (kw.map vu)[j]? = some u → w.cell? ⟨3, j, none⟩ = some u
theorem KW.keep {w w' : World} (h : KW w) (hb : Below w.heap.size w w') : KW w' :=
  ⟨Nat.lt_of_lt_of_le h.1 hb.size, fun j u hu => (hb.cell (p := ⟨3, j, none⟩) h.1).trans (h.2 j u hu)⟩
end Go.Proofs
