/-
  The symbolic state: numbers of 64 bits without a sign, shifts, bits, conversions; calls of bodies that the model stands in for; pieces of rows. Plain lemmas over any program.
(Joined texts.)
-/
import Derived.Test.YtiboffhdabeiiaaSxK
import Derived.Laws.BitsAllLaws
import Derived.Laws.BitsLemmas
import Derived.Laws.Externs
import Derived.Laws.Strings
import Derived.Laws.BytesString
import Derived.Laws.Concat
import Derived.KernelRfl
namespace Go.Proofs.Ytiboffhdabeiiaa
open Go Go.RowKit

theorem wrapU64 (n : Int) : IntKind.u64.wrap n = n % 18446744073709551616 := by simp [IntKind.wrap, IntKind.bits, IntKind.signed]
theorem wrapI64 (n : Int) : IntKind.i64.wrap n = (n + 9223372036854775808) % 18446744073709551616 - 9223372036854775808 := by
  simp [IntKind.wrap, IntKind.signed, IntKind.bits]
  split <;> omega
theorem wrapU8 (n : Int) : IntKind.u8.wrap n = n % 256 := by simp [IntKind.wrap, IntKind.bits, IntKind.signed]
theorem wrapU16 (n : Int) : IntKind.u16.wrap n = n % 65536 := by simp [IntKind.wrap, IntKind.bits, IntKind.signed]
theorem wrapU32 (n : Int) : IntKind.u32.wrap n = n % 4294967296 := by simp [IntKind.wrap, IntKind.bits, IntKind.signed]
theorem wrapI32 (n : Int) : IntKind.i32.wrap n = (n + 2147483648) % 4294967296 - 2147483648 := by
  simp [IntKind.wrap, IntKind.signed, IntKind.bits]
  split <;> omega
theorem wrapI8 (n : Int) : IntKind.i8.wrap n = (n + 128) % 256 - 128 := by
  simp [IntKind.wrap, IntKind.signed, IntKind.bits]
  split <;> omega

section
variable {P : Program} {nt : Nat} {o : Oper} {sl : List (Nat × SV)} {hp : List (Nat × Chunk)} {t : Nat}
variable {ty : TypeId} {pos : String} {af : Array Edge} {g : Option (Nat × Bool)}

section
variable {op : BinOp} {T T' : TypeId} {x y : Operand} {a b v : Int} (hv : arVal op a b = some v) 
include hv
theorem OpR.arU (hx : evS sl x = some (.v (.int .u64 a))) (hy : evS sl y = some (.v (.int .u64 b))) (ht : Nat.blt t nt = true) :
    OpR P nt ⟨sl, hp⟩ ⟨some t, .binOp op T x y T', ty, pos, af, g⟩ ⟨insOf x (.v (.int .u64 a)) ++ insOf y (.v (.int .u64 b)), [], [], some t, .v (.int .u64 (v % 18446744073709551616)), []⟩ ⟨(t, .v (.int .u64 (v % 18446744073709551616))) :: sl, hp⟩ := by
  cases op <;> simp only [arVal, Option.some.injEq] at hv <;> first
    | (subst hv; first | exact OpR.addK hx hy ht (wrapU64 _) | exact OpR.subK hx hy ht (wrapU64 _) | exact OpR.mulK hx hy ht (wrapU64 _))
    | cases hv
theorem OpR.arUI (hx : evS sl x = some (.v (.int .u64 a))) (hy : evS sl y = some (.v (.int .u64 b))) (ht : Nat.blt t nt = true) (h1 : 0 ≤ v) (h2 : v < 18446744073709551616) :
    OpR P nt ⟨sl, hp⟩ ⟨some t, .binOp op T x y T', ty, pos, af, g⟩ ⟨insOf x (.v (.int .u64 a)) ++ insOf y (.v (.int .u64 b)), [], [], some t, .v (.int .u64 v), []⟩ ⟨(t, .v (.int .u64 v)) :: sl, hp⟩ := by
  have h := OpR.arU (P := P) (nt := nt) (hp := hp) (T := T) (T' := T') (ty := ty) (pos := pos) (af := af) (g := g) hv hx hy ht
  rwa [Int.emod_eq_of_lt h1 h2] at h
theorem OpR.ar8 (hx : evS sl x = some (.v (.int .u8 a))) (hy : evS sl y = some (.v (.int .u8 b))) (ht : Nat.blt t nt = true) (h1 : 0 ≤ v) (h2 : v < 256) :
    OpR P nt ⟨sl, hp⟩ ⟨some t, .binOp op T x y T', ty, pos, af, g⟩ ⟨insOf x (.v (.int .u8 a)) ++ insOf y (.v (.int .u8 b)), [], [], some t, .v (.int .u8 v), []⟩ ⟨(t, .v (.int .u8 v)) :: sl, hp⟩ := by
  have e : IntKind.u8.wrap v = v := by rw [wrapU8]; omega
  cases op <;> simp only [arVal, Option.some.injEq] at hv <;> first
    | (subst hv; first | exact OpR.addK hx hy ht e | exact OpR.subK hx hy ht e | exact OpR.mulK hx hy ht e)
    | cases hv
/-- It may go round. -/
theorem OpR.arW (hx : evS sl x = some (.v (.int .i64 a))) (hy : evS sl y = some (.v (.int .i64 b))) (ht : Nat.blt t nt = true) :
    OpR P nt ⟨sl, hp⟩ ⟨some t, .binOp op T x y T', ty, pos, af, g⟩ ⟨insOf x (.v (.int .i64 a)) ++ insOf y (.v (.int .i64 b)), [], [], some t, .v (.int .i64 ((v + 9223372036854775808) % 18446744073709551616 - 9223372036854775808)), []⟩ ⟨(t, .v (.int .i64 ((v + 9223372036854775808) % 18446744073709551616 - 9223372036854775808))) :: sl, hp⟩ := by
  cases op <;> simp only [arVal, Option.some.injEq] at hv <;> first
    | (subst hv; first | exact OpR.addK hx hy ht (wrapI64 _) | exact OpR.subK hx hy ht (wrapI64 _) | exact OpR.mulK hx hy ht (wrapI64 _))
    | cases hv
end

/-! ### Shifts -/
def pw2 : Nat → Option Int
  | 63 => some 9223372036854775808
  | 62 => some 4611686018427387904
  | 60 => some 1152921504606846976
  | 40 => some 1099511627776
  | 32 => some 4294967296
  | 16 => some 65536
  | 8 => some 256
  | 4 => some 16
  | 1 => some 2
  | _ => none
theorem pw2_spec {n : Nat} {p : Int} (h : pw2 n = some p) : p = 2 ^ n ∧ n ≤ 63 := by
  unfold pw2 at h
  split at h <;> first | (injection h with h; subst h; decide) | cases h
section
variable {T T' : TypeId} {x y : Operand} {k ky : IntKind} {a : Int} {n : Nat} {p : Int}
theorem run_shr (w : World) (h64 : k.bits = 64) (hn : n < 64) : (binOp .shr T (.int k a) (.int ky (n : Int))).run P w = .ok (.int k (a / 2 ^ n)) w := by
  have : ¬ ((n : Int) < 0) := by omega
  simp only [binOp, Op.shift, this, if_false, h64, Int.toNat_natCast, Nat.min_eq_left (by omega : n ≤ 64)]
  rw [Int.fdiv_eq_ediv_of_nonneg _ (by exact Int.le_of_lt (Int.pow_pos (by decide)))]
  rfl
theorem run_shl (w : World) (h64 : k.bits = 64) (hn : n < 64) : (binOp .shl T (.int k a) (.int ky (n : Int))).run P w = .ok (.int k (k.wrap (a * 2 ^ n))) w := by
  have : ¬ ((n : Int) < 0) := by omega
  simp only [binOp, Op.shift, this, if_false, h64, Int.toNat_natCast, Nat.min_eq_left (by omega : n ≤ 64)]
  rfl
theorem OpR.shrN (hk : k.bits = 64) (hx : evS sl x = some (.v (.int k a))) (hy : evS sl y = some (.v (.int ky (n : Int)))) (ht : Nat.blt t nt = true) (hn : n < 64) :
    OpR P nt ⟨sl, hp⟩ ⟨some t, .binOp .shr T x y T', ty, pos, af, g⟩ ⟨insOf x (.v (.int k a)) ++ insOf y (.v (.int ky (n : Int))), [], [], some t, .v (.int k (a / 2 ^ n)), []⟩ ⟨(t, .v (.int k (a / 2 ^ n))) :: sl, hp⟩ :=
  OpR.binv hx hy ht fun w => by
    have h := run_shr (P := P) (T := T) (ky := ky) (a := a) w hk hn
    simp only [Sem.run_bind, eqGuard]
    exact h
theorem OpR.shr {s : Int} (hk : k.bits = 64) (hx : evS sl x = some (.v (.int k a))) (hy : evS sl y = some (.v (.int ky s))) (ht : Nat.blt t nt = true) (hp2 : pw2 s.toNat = some p) (hs : 0 ≤ s) :
    OpR P nt ⟨sl, hp⟩ ⟨some t, .binOp .shr T x y T', ty, pos, af, g⟩ ⟨insOf x (.v (.int k a)) ++ insOf y (.v (.int ky s)), [], [], some t, .v (.int k (a / p)), []⟩ ⟨(t, .v (.int k (a / p))) :: sl, hp⟩ := by
  obtain ⟨n, rfl⟩ : ∃ n : Nat, s = (n : Int) := ⟨s.toNat, by omega⟩
  obtain ⟨rfl, hn⟩ := pw2_spec hp2
  exact OpR.shrN hk hx hy ht (by simpa using (by omega : n < 64))
theorem OpR.shlU {s : Int} (hx : evS sl x = some (.v (.int .u64 a))) (hy : evS sl y = some (.v (.int ky s))) (ht : Nat.blt t nt = true) (hp2 : pw2 s.toNat = some p) (hs : 0 ≤ s) :
    OpR P nt ⟨sl, hp⟩ ⟨some t, .binOp .shl T x y T', ty, pos, af, g⟩ ⟨insOf x (.v (.int .u64 a)) ++ insOf y (.v (.int ky s)), [], [], some t, .v (.int .u64 (a * p % 18446744073709551616)), []⟩ ⟨(t, .v (.int .u64 (a * p % 18446744073709551616))) :: sl, hp⟩ := by
  obtain ⟨n, rfl⟩ : ∃ n : Nat, s = (n : Int) := ⟨s.toNat, by omega⟩
  obtain ⟨rfl, hn⟩ := pw2_spec hp2
  refine OpR.binv hx hy ht fun w => ?_
  have h := run_shl (P := P) (T := T) (ky := ky) (k := .u64) (a := a) w rfl (n := n) (by simp at hn; omega)
  rw [wrapU64] at h
  simp only [Sem.run_bind, eqGuard]
  simpa using h
theorem OpR.shlI {s : Int} (hx : evS sl x = some (.v (.int .i64 a))) (hy : evS sl y = some (.v (.int ky s))) (ht : Nat.blt t nt = true) (hp2 : pw2 s.toNat = some p) (hs : 0 ≤ s) (h1 : -9223372036854775808 ≤ a * p) (h2 : a * p ≤ 9223372036854775807) :
    OpR P nt ⟨sl, hp⟩ ⟨some t, .binOp .shl T x y T', ty, pos, af, g⟩ ⟨insOf x (.v (.int .i64 a)) ++ insOf y (.v (.int ky s)), [], [], some t, .v (.int .i64 (a * p)), []⟩ ⟨(t, .v (.int .i64 (a * p))) :: sl, hp⟩ := by
  obtain ⟨n, rfl⟩ : ∃ n : Nat, s = (n : Int) := ⟨s.toNat, by omega⟩
  obtain ⟨rfl, hn⟩ := pw2_spec hp2
  refine OpR.binv hx hy ht fun w => ?_
  have h := run_shl (P := P) (T := T) (ky := ky) (k := .i64) (a := a) w rfl (n := n) (by simp at hn; omega)
  rw [wrap64_in (by simpa using h1) (by simpa using h2)] at h
  simp only [Sem.run_bind, eqGuard]
  simpa using h
end

/-! ### Bits -/
section
variable {T T' : TypeId} {x y : Operand} {a b : Int}
theorem toNat64 (n : Int) : (((BitVec.ofInt 64 n).toNat : Nat) : Int) = n % 18446744073709551616 := by
  rw [BitVec.toNat_ofInt]
  have : ((2 ^ 64 : Nat) : Int) = 18446744073709551616 := by decide
  rw [this]
  omega
theorem toNat64' {n : Nat} (h : n < 18446744073709551616) : (BitVec.ofInt 64 (n : Int)).toNat = n := by
  have := toNat64 (n : Int)
  omega
theorem and0_u64 (b : Int) : Op.intBits .and .u64 0 b = pure (.int .u64 0) := by
  show pure (Value.int .u64 (IntKind.u64.wrap (((BitVec.ofInt 64 0 &&& BitVec.ofInt 64 b).toNat : Nat) : Int))) = _
  rw [show BitVec.ofInt 64 0 = 0#64 by decide, BitVec.zero_and]
  rfl
theorem and1_u64 (b : Int) (h1 : 0 ≤ b) (h2 : b < 18446744073709551616) : Op.intBits .and .u64 18446744073709551615 b = pure (.int .u64 b) := by
  have e : BitVec.ofInt 64 18446744073709551615 = BitVec.allOnes 64 := by decide
  show pure (Value.int .u64 (IntKind.u64.wrap (((BitVec.ofInt 64 18446744073709551615 &&& BitVec.ofInt 64 b).toNat : Nat) : Int))) = _
  rw [e, BitVec.allOnes_and, toNat64, wrapU64]
  congr 2
  omega
theorem and32_u64 (a : Int) (h1 : 0 ≤ a) (h2 : a < 18446744073709551616) : Op.intBits .and .u64 a 4294967295 = pure (.int .u64 (a % 4294967296)) := by
  obtain ⟨n, rfl⟩ : ∃ n : Nat, a = (n : Int) := ⟨a.toNat, by omega⟩
  show pure (Value.int .u64 (IntKind.u64.wrap (((BitVec.ofInt 64 (n : Int) &&& BitVec.ofInt 64 4294967295).toNat : Nat) : Int))) = _
  have e2 : (BitVec.ofInt 64 4294967295).toNat = 2 ^ 32 - 1 := by decide
  rw [BitVec.toNat_and, toNat64' (by omega), e2, Nat.and_two_pow_sub_one_eq_mod, wrapU64]
  congr 2
  omega
theorem or_u64 (i : Nat) (a b : Int) (ha : a % 2 ^ i = 0) (h0 : 0 ≤ a) (hb : 0 ≤ b) (hb2 : b < 2 ^ i) (h1 : a + b < 18446744073709551616) : Op.intBits .or .u64 a b = pure (.int .u64 (a + b)) := by
  obtain ⟨n, rfl⟩ : ∃ n : Nat, a = (n : Int) := ⟨a.toNat, by omega⟩
  obtain ⟨m, rfl⟩ : ∃ n : Nat, b = (n : Int) := ⟨b.toNat, by omega⟩
  show pure (Value.int .u64 (IntKind.u64.wrap (((BitVec.ofInt 64 (n : Int) ||| BitVec.ofInt 64 (m : Int)).toNat : Nat) : Int))) = _
  have hm : m < 2 ^ i := by exact_mod_cast hb2
  have hn : n % 2 ^ i = 0 := by exact_mod_cast ha
  obtain ⟨q, rfl⟩ : ∃ q, n = 2 ^ i * q := ⟨n / 2 ^ i, by have := Nat.div_add_mod n (2 ^ i); omega⟩
  rw [BitVec.toNat_or, toNat64' (by omega), toNat64' (by omega), ← Nat.two_pow_add_eq_or_of_lt hm, wrapU64]
  congr 2
  omega
theorem OpR.and0 (ha : a = 0) (hx : evS sl x = some (.v (.int .u64 a))) (hy : evS sl y = some (.v (.int .u64 b))) (ht : Nat.blt t nt = true) :
    OpR P nt ⟨sl, hp⟩ ⟨some t, .binOp .and T x y T', ty, pos, af, g⟩ ⟨insOf x (.v (.int .u64 a)) ++ insOf y (.v (.int .u64 b)), [], [], some t, .v (.int .u64 0), []⟩ ⟨(t, .v (.int .u64 0)) :: sl, hp⟩ := by
  subst ha
  exact OpR.binv hx hy ht fun w => by simp [binOp, eqGuard, and0_u64]
theorem OpR.and1 (ha : a = 18446744073709551615) (h1 : 0 ≤ b) (h2 : b < 18446744073709551616) (hx : evS sl x = some (.v (.int .u64 a))) (hy : evS sl y = some (.v (.int .u64 b))) (ht : Nat.blt t nt = true) :
    OpR P nt ⟨sl, hp⟩ ⟨some t, .binOp .and T x y T', ty, pos, af, g⟩ ⟨insOf x (.v (.int .u64 a)) ++ insOf y (.v (.int .u64 b)), [], [], some t, .v (.int .u64 b), []⟩ ⟨(t, .v (.int .u64 b)) :: sl, hp⟩ := by
  subst ha
  exact OpR.binv hx hy ht fun w => by simp [binOp, eqGuard, and1_u64 b h1 h2]
theorem OpR.and32 (h1 : 0 ≤ a) (h2 : a < 18446744073709551616) (hx : evS sl x = some (.v (.int .u64 a))) (hy : evS sl y = some (.v (.int .u64 4294967295))) (ht : Nat.blt t nt = true) :
    OpR P nt ⟨sl, hp⟩ ⟨some t, .binOp .and T x y T', ty, pos, af, g⟩ ⟨insOf x (.v (.int .u64 a)) ++ insOf y (.v (.int .u64 4294967295)), [], [], some t, .v (.int .u64 (a % 4294967296)), []⟩ ⟨(t, .v (.int .u64 (a % 4294967296))) :: sl, hp⟩ :=
  OpR.binv hx hy ht fun w => by simp [binOp, eqGuard, and32_u64 a h1 h2]
theorem OpR.orU (i : Nat) (ha : a % 2 ^ i = 0) (h0 : 0 ≤ a) (hb : 0 ≤ b) (hb2 : b < 2 ^ i) (h1 : a + b < 18446744073709551616) (hx : evS sl x = some (.v (.int .u64 a))) (hy : evS sl y = some (.v (.int .u64 b))) (ht : Nat.blt t nt = true) :
    OpR P nt ⟨sl, hp⟩ ⟨some t, .binOp .or T x y T', ty, pos, af, g⟩ ⟨insOf x (.v (.int .u64 a)) ++ insOf y (.v (.int .u64 b)), [], [], some t, .v (.int .u64 (a + b)), []⟩ ⟨(t, .v (.int .u64 (a + b))) :: sl, hp⟩ :=
  OpR.binv hx hy ht fun w => by simp [binOp, eqGuard, or_u64 i a b ha h0 hb hb2 h1]
theorem not_bv (n : Int) : (((BitVec.ofInt 64 (-1) ^^^ BitVec.ofInt 64 n).toNat : Nat) : Int) = 18446744073709551615 - n % 18446744073709551616 := by
  have e : BitVec.ofInt 64 (-1) = BitVec.allOnes 64 := by decide
  rw [e, BitVec.allOnes_xor, BitVec.toNat_not]
  have h := toNat64 n
  have h2 := (BitVec.ofInt 64 n).isLt
  omega
theorem OpR.xorI (h1 : -9223372036854775808 ≤ a) (h2 : a ≤ 9223372036854775807) (hx : evS sl x = some (.v (.int .i64 a))) (ht : Nat.blt t nt = true) :
    OpR P nt ⟨sl, hp⟩ ⟨some t, .unOp .xor T x, ty, pos, af, g⟩ ⟨insOf x (.v (.int .i64 a)), [], [], some t, .v (.int .i64 (-1 - a)), []⟩ ⟨(t, .v (.int .i64 (-1 - a))) :: sl, hp⟩ :=
  OpR.unv hx ht fun w => by
    have e : Op.unary .xor (.int .i64 a) = pure (Value.int .i64 (-1 - a)) := by
      show pure (Value.int .i64 (IntKind.i64.wrap (((BitVec.ofInt 64 (-1) ^^^ BitVec.ofInt 64 a).toNat : Nat) : Int))) = _
      rw [not_bv, wrapI64]
      congr 2
      omega
    rw [e]
    rfl
theorem OpR.xorU (h1 : 0 ≤ a) (h2 : a < 18446744073709551616) (hx : evS sl x = some (.v (.int .u64 a))) (ht : Nat.blt t nt = true) :
    OpR P nt ⟨sl, hp⟩ ⟨some t, .unOp .xor T x, ty, pos, af, g⟩ ⟨insOf x (.v (.int .u64 a)), [], [], some t, .v (.int .u64 (18446744073709551615 - a)), []⟩ ⟨(t, .v (.int .u64 (18446744073709551615 - a))) :: sl, hp⟩ :=
  OpR.unv hx ht fun w => by
    have e0 : BitVec.ofInt 64 (IntKind.u64.max) = BitVec.ofInt 64 (-1) := by decide
    have e : Op.unary .xor (.int .u64 a) = pure (Value.int .u64 (18446744073709551615 - a)) := by
      show pure (Value.int .u64 (IntKind.u64.wrap (((BitVec.ofInt 64 (IntKind.u64.max) ^^^ BitVec.ofInt 64 a).toNat : Nat) : Int))) = _
      rw [e0, not_bv, wrapU64]
      congr 2
      omega
    rw [e]
    rfl
end

/-! ### Conversions -/
section
variable {S T : TypeId} {x : Operand} {ks : IntKind} {a : Int} [hs : TyInt P S ks]
theorem OpR.convUI [hk : TyInt P T .u64] (hx : evS sl x = some (.v (.int ks a))) (ht : Nat.blt t nt = true) (h1 : 0 ≤ a) (h2 : a < 18446744073709551616) :
    OpR P nt ⟨sl, hp⟩ ⟨some t, .convert S T x, ty, pos, af, g⟩ ⟨insOf x (.v (.int ks a)), [], [], some t, .v (.int .u64 a), []⟩ ⟨(t, .v (.int .u64 a)) :: sl, hp⟩ :=
  OpR.convK hs hk hx ht (by rw [wrapU64]; omega)
theorem OpR.convU [hk : TyInt P T .u64] (hx : evS sl x = some (.v (.int ks a))) (ht : Nat.blt t nt = true) :
    OpR P nt ⟨sl, hp⟩ ⟨some t, .convert S T x, ty, pos, af, g⟩ ⟨insOf x (.v (.int ks a)), [], [], some t, .v (.int .u64 (a % 18446744073709551616)), []⟩ ⟨(t, .v (.int .u64 (a % 18446744073709551616))) :: sl, hp⟩ :=
  OpR.convK hs hk hx ht (wrapU64 _)
theorem OpR.convW [hk : TyInt P T .i64] (hx : evS sl x = some (.v (.int ks a))) (ht : Nat.blt t nt = true) :
    OpR P nt ⟨sl, hp⟩ ⟨some t, .convert S T x, ty, pos, af, g⟩ ⟨insOf x (.v (.int ks a)), [], [], some t, .v (.int .i64 ((a + 9223372036854775808) % 18446744073709551616 - 9223372036854775808)), []⟩ ⟨(t, .v (.int .i64 ((a + 9223372036854775808) % 18446744073709551616 - 9223372036854775808))) :: sl, hp⟩ :=
  OpR.convK hs hk hx ht (wrapI64 _)
theorem OpR.conv8 [hk : TyInt P T .u8] (hx : evS sl x = some (.v (.int ks a))) (ht : Nat.blt t nt = true) (h1 : 0 ≤ a) (h2 : a < 256) :
    OpR P nt ⟨sl, hp⟩ ⟨some t, .convert S T x, ty, pos, af, g⟩ ⟨insOf x (.v (.int ks a)), [], [], some t, .v (.int .u8 a), []⟩ ⟨(t, .v (.int .u8 a)) :: sl, hp⟩ :=
  OpR.convK hs hk hx ht (by rw [wrapU8]; omega)
theorem OpR.conv16 [hk : TyInt P T .u16] (hx : evS sl x = some (.v (.int ks a))) (ht : Nat.blt t nt = true) (h1 : 0 ≤ a) (h2 : a < 65536) :
    OpR P nt ⟨sl, hp⟩ ⟨some t, .convert S T x, ty, pos, af, g⟩ ⟨insOf x (.v (.int ks a)), [], [], some t, .v (.int .u16 a), []⟩ ⟨(t, .v (.int .u16 a)) :: sl, hp⟩ :=
  OpR.convK hs hk hx ht (by rw [wrapU16]; omega)
end

/-! ### Calls of bodies that the model stands in for -/
theorem OpR.callX {fo : Operand} {f : FuncId} {xs : List Operand} {ats : Array TypeId} {Xs : List SV} {R : SV} (hfo : evS sl fo = some (.fn f [])) (hxs : evL sl xs = some Xs) (hi : R.ids = [])
    (h : ∀ β w, (callFunc f (denL β Xs).toArray).run P w = .ok (.value (R.den β)) w) (ht : Nat.blt t nt = true) :
    OpR P nt ⟨sl, hp⟩ ⟨some t, .call { callee := .value fo, args := xs.toArray, argTypes := ats }, ty, pos, af, g⟩ ⟨insOf fo (.fn f []) ++ insL xs Xs, [], [], some t, R, []⟩ ⟨(t, R) :: sl, hp⟩ := by
  refine ⟨StepOk.quiet rfl (by simp [Nat.blt] at ht; omega) (fun s _ _ _ i hi' => by rw [hi] at hi'; simp at hi') (fun F β a w hp _ => ?_), ⟨?_, by simp, by simp⟩, rfl⟩
  · have ef := eval_of (evC_of hfo) (fun p hp' => hp p (List.mem_append_left _ hp'))
    have ex := insL_eval hxs (fun p hp' => hp p (List.mem_append_right _ hp'))
    have hargs : (xs.toArray.map a.eval ++ (denL β []).toArray) = (denL β Xs).toArray := by
      rw [← ex]
      simp [denL]
    simp only [execOp, resolve, ef, SV.den, Deferred.ofValue, Sem.run_bind, Sem.run_pure, Result.andThen_ok, invoke, Array.empty_append]
    rw [hargs]
    exact h β w
  · intro p hp'
    rcases List.mem_append.1 hp' with h1 | h1
    · exact insOf_pre (s := ⟨sl, hp⟩) hfo p h1
    · exact insL_pre (s := ⟨sl, hp⟩) hxs p h1

/-! ### A piece of a row -/
def subBI (b : BI) (size i : Nat) (sub : Bool) : BI := bif sub then ⟨false, b.B, b.O + i * size, b.cap - i, none, []⟩ else ⟨true, 0, 0, b.cap - i, if b.cap = i then b.dn else b.dn.map (·.add (i * size)), []⟩
inductive Bnd (sl : List (Nat × SV)) (d : Nat) : Option Operand → List (Nat × SV) → Nat → Prop
  | none : Bnd sl d .none [] d
  | some {x : Operand} {k : IntKind} {v : Int} (h : evS sl x = .some (.v (.int k v))) (h0 : 0 ≤ v) : Bnd sl d (.some x) (insOf x (.v (.int k v))) v.toNat
theorem Bnd.pre {sl : List (Nat × SV)} {d : Nat} {x : Option Operand} {I : List (Nat × SV)} {i : Nat} (h : Bnd sl d x I i) : ∀ p ∈ I, getL sl p.1 = .some p.2 := by
  cases h with
  | none => simp
  | some h h0 => exact insOf_pre (s := ⟨sl, []⟩) h
theorem Bnd.ev {d : Nat} {x : Option Operand} {I : List (Nat × SV)} {i : Nat} {β : Nat → BI} {a : Act} (h : Bnd sl d x I i) (hI : ∀ p ∈ I, a.tmps[p.1]? = .some (p.2.den β)) : (x = .none ∧ i = d) ∨ ∃ y k, x = .some y ∧ a.eval y = .int k (i : Int) := by
  cases h with
  | none => exact .inl ⟨rfl, rfl⟩
  | @some x k v h h0 =>
    refine .inr ⟨x, k, rfl, ?_⟩
    rw [eval_of (evC_of h) hI, Int.toNat_of_nonneg h0]
    rfl
theorem run_sliceBound {w : World} {k : IntKind} {i y : Nat} (code : BoundsCode) (h : i ≤ y) : (Instr.sliceBound (.int k (i : Int)) y code).run P w = .ok i w := by
  simp only [Instr.sliceBound, asIntOf, Sem.run_bind, Sem.run_pure, Result.andThen_ok]
  rw [if_pos (by omega)]
  simp
theorem run_sliceBounds {w : World} {lo hi : Option Operand} {I J : List (Nat × SV)} {i j n cap : Nat} {β : Nat → BI} {a : Act} {s : Bool} (hlo : Bnd sl 0 lo I i) (hhi : Bnd sl n hi J j) (hI : ∀ p ∈ I, a.tmps[p.1]? = some (p.2.den β)) (hJ : ∀ p ∈ J, a.tmps[p.1]? = some (p.2.den β)) (h1 : i ≤ j) (h2 : j ≤ cap) :
    (Instr.sliceBounds s n cap (lo.map a.eval) (hi.map a.eval) none).run P w = .ok (i, j, cap) w := by
  rcases hlo.ev hI with ⟨rfl, rfl⟩ | ⟨y, k, rfl, hy⟩ <;> rcases hhi.ev hJ with ⟨rfl, rfl⟩ | ⟨z, k', rfl, hz⟩
  · simp [Instr.sliceBounds]
  · simp only [Instr.sliceBounds, Option.map_some, Option.map_none, hz, Sem.run_bind, Sem.run_pure, Result.andThen_ok, run_sliceBound _ h2]
  · simp only [Instr.sliceBounds, Option.map_some, Option.map_none, hy, Sem.run_bind, Sem.run_pure, Result.andThen_ok, run_sliceBound _ h1]
  · simp only [Instr.sliceBounds, Option.map_some, hy, hz, Sem.run_bind, Sem.run_pure, Result.andThen_ok, run_sliceBound _ h2, run_sliceBound _ h1]
theorem flat_drop {α : Type} (E : Enc α) (l : List α) (i : Nat) : flat E (l.drop i) = (flat E l).drop (i * E.size) := by
  by_cases hi : i ≤ l.length
  · have h : flat E l = flat E (l.take i) ++ flat E (l.drop i) := by rw [← flat_append, List.take_append_drop]
    have h2 : (flat E (l.take i)).length = i * E.size := by rw [flat_len, List.length_take, Nat.min_eq_left hi]
    rw [h, ← h2, List.drop_left]
  · rw [List.drop_eq_nil_of_le (by omega), List.drop_eq_nil_of_le (by rw [flat_len]; exact Nat.mul_le_mul_right _ (by omega))]
    rfl
theorem flat_take {α : Type} (E : Enc α) (l : List α) (i : Nat) : flat E (l.take i) = (flat E l).take (i * E.size) := by
  by_cases hi : i ≤ l.length
  · have h : flat E l = flat E (l.take i) ++ flat E (l.drop i) := by rw [← flat_append, List.take_append_drop]
    have h2 : (flat E (l.take i)).length = i * E.size := by rw [flat_len, List.length_take, Nat.min_eq_left hi]
    rw [h, ← h2, List.take_left]
  · rw [List.take_of_length_le (by omega), List.take_of_length_le (by rw [flat_len]; exact Nat.mul_le_mul_right _ (by omega))]
theorem sub_rd {β : Nat → BI} {id : Nat} {w : World} {α : Type} {E : Enc α} {l : List α} {i m : Nat} (h : RdOk β id w E l) (hm : i + m ≤ l.length) : RdOk (upd β t (subBI (β id) E.size i (decide (0 < m)))) t w E ((l.drop i).take m) := by
  intro hne
  have h0 : 0 < m := by
    rcases Nat.eq_zero_or_pos m with rfl | h0
    · simp at hne
    · exact h0
  obtain ⟨⟨_, h1⟩, h2⟩ := h (by rintro rfl; simp at hm; omega)
  have hb : upd β t (subBI (β id) E.size i (decide (0 < m))) t = ⟨false, (β id).B, (β id).O + i * E.size, (β id).cap - i, none, []⟩ := by
    rw [upd_same]
    simp only [subBI, decide_eq_true h0, cond_true]
  rw [hb]
  refine ⟨⟨rfl, by simp; omega⟩, fun q u hu => ?_⟩
  dsimp only
  rw [flat_take, List.getElem?_take] at hu
  split at hu
  · rw [flat_drop, List.getElem?_drop] at hu
    rw [Nat.add_assoc]
    exact h2 _ u hu
  · cases hu
/-- A piece of a row that is only read. -/
theorem OpR.sliceRo {T : TypeId} {x : Operand} {lo hi : Option Operand} {I J : List (Nat × SV)} {id n i j : Nat} {e sz : Nat} {α : Type} {E : Enc α} {l : List α} [hT : TySlice P T e sz] (hx : evS sl x = some (.a id n)) (hc : getL hp id = some (.ro E l)) (hlo : Bnd sl 0 lo I i) (hhi : Bnd sl n hi J j)
    (hs : E.size = sz) (hij : i ≤ j) (hjn : j ≤ n) (hl : l.length = n) (ht : Nat.blt t nt = true) (hf : getL hp t = none) :
    OpR P nt ⟨sl, hp⟩ ⟨some t, .slice T x lo hi none, ty, pos, af, g⟩ ⟨insOf x (.a id n) ++ (I ++ J), [(id, .ro E l)], [t], some t, .a t (j - i), [(t, .ro E ((l.drop i).take (j - i)))]⟩ ⟨(t, .a t (j - i)) :: sl, (t, .ro E ((l.drop i).take (j - i))) :: hp⟩ := by
  subst hs
  subst hl
  have hti : t ≠ id := by rintro rfl; rw [hf] at hc; cases hc
  refine ⟨⟨rfl, fun F s a w hs hpre => ?_⟩, ⟨?_, by simpa using hc, by simpa using hf⟩, rfl⟩
  · obtain ⟨β, hs⟩ := hs
    obtain ⟨p1, p2, p3⟩ := hpre
    have hn := p3 t (by simp)
    have hci := p2 (id, .ro E l) (by simp)
    have q : ∀ p ∈ insOf x (.a id l.length) ++ (I ++ J), a.tmps[p.1]? = some (p.2.den β) := fun p hp => hs.2.2.1 _ _ (p1 p hp)
    have ex := eval_of (evC_of hx) (fun p hp' => q p (List.mem_append_left _ hp'))
    have hrd : RdOk β id w E l := hs.2.2.2.1.1 _ _ hci
    have hjc : j ≤ (β id).cap := by
      by_cases h0 : l = []
      · subst h0
        simp at hjn
        omega
      · have := (hrd h0).1.2
        omega
    have hb := run_sliceBounds (P := P) (w := w) (s := true) (cap := (β id).cap) hlo hhi (fun p hp' => q p (List.mem_append_right _ (List.mem_append_left _ hp'))) (fun p hp' => q p (List.mem_append_right _ (List.mem_append_right _ hp'))) hij hjc
    let b := subBI (β id) E.size i (decide (0 < j - i))
    have hrun : (execOp a.eval ⟨some t, .slice T x lo hi none, ty, pos, af, g⟩).run P w = .ok (.value ((SV.a t (j - i)).den (upd β t b))) w := by
      simp only [execOp, ex, SV.den, Instr.sliceAt, Sem.run_bind, run_underlying hT.h, Result.andThen_ok, Instr.slice, Option.map_none, hb, run_sizeOf' hT.hn, Sem.run_pure, upd_same]
      by_cases h0 : 0 < j - i
      · have hne : l ≠ [] := by rintro rfl; simp at hjn; omega
        obtain ⟨⟨k1, k2⟩, _⟩ := hrd hne
        rw [if_neg (by omega)]
        simp only [b, subBI, decide_eq_true h0, cond_true, BI.dn, k1, cond_false, Option.map_some, add_lit]
      · simp only [b, subBI, decide_eq_false h0, cond_false, BI.dn, cond_true]
    refine Oper.wp_ok hrun ?_
    have one : ∀ {k d}, getL [(t, Chunk.ro E ((l.drop i).take (j - i)))] k = some d → k = t ∧ d = .ro E ((l.drop i).take (j - i)) := by
      intro k d hk
      rw [getL_cons] at hk
      split at hk
      · rename_i e1
        injection hk with hk
        exact ⟨e1.symm, hk.symm⟩
      · simp [getL] at hk
    have hmv := hs.move (β' := upd β t b) (w' := w) (T := fun _ => False) [(t, .ro E ((l.drop i).take (j - i)))] (upd_old hn) (Fr.refl _ w) (fun _ h => h.elim)
      (fun k d hk => by
        obtain ⟨rfl, rfl⟩ := one hk
        exact sub_rd hrd (by omega))
      (fun k d g hk hg => by
        obtain ⟨rfl, rfl⟩ := one hk
        exact hg.elim)
      (fun k d g hk hg => by
        obtain ⟨rfl, rfl⟩ := one hk
        obtain ⟨hne, hg⟩ := hg
        have h0 : 0 < j - i := by
          rcases Nat.eq_zero_or_pos (j - i) with h | h
          · rw [h] at hne
            simp at hne
          · exact h
        rw [upd_same] at hg
        simp only [b, subBI, decide_eq_true h0, cond_true] at hg
        exact .inr ⟨id, _, hci, ⟨by rintro rfl; simp at hjn; omega, hg⟩, .inr (fun h => h.elim)⟩)
      (fun k k' d d' _ hk _ g hg _ => by
        obtain ⟨rfl, rfl⟩ := one hk
        exact hg.elim)
      (fun k d hk q hq => by
        obtain ⟨rfl, rfl⟩ := one hk
        simp [Chunk.ids] at hq)
    have hput := hmv.put (t := t) (x := .a t (j - i)) (by simp [Nat.blt] at ht; omega) (fun k hk => by
      have : k = t := by simpa [SV.ids] using hk
      subst this
      simp [getL_cons])
    exact ⟨_, hput⟩
  · intro p hp'
    rcases List.mem_append.1 hp' with h1 | h1
    · exact insOf_pre (s := ⟨sl, hp⟩) hx p h1
    · rcases List.mem_append.1 h1 with h1 | h1
      · exact hlo.pre p h1
      · exact hhi.pre p h1
/-- A piece of a row that from now on is only read. -/
theorem OpR.slice {T : TypeId} {x : Operand} {lo hi : Option Operand} {I J : List (Nat × SV)} {id n i j : Nat} {e sz : Nat} {α : Type} {c : Chunk} {E : Enc α} {l : List α} [hT : TySlice P T e sz] (hx : evS sl x = some (.a id n)) (hc : getL hp id = some c) [hr : RowC c E l] (hlo : Bnd sl 0 lo I i) (hhi : Bnd sl n hi J j)
    (hs : E.size = sz) (hij : i ≤ j) (hjn : j ≤ n) (hl : l.length = n) (ht : Nat.blt t nt = true) (hf : getL hp t = none) :
    OpR P nt ⟨sl, hp⟩ ⟨some t, .slice T x lo hi none, ty, pos, af, g⟩ ⟨insOf x (.a id n) ++ (I ++ J), [(id, c)], [t], some t, .a t (j - i), [(t, .ro E ((l.drop i).take (j - i))), (id, .ro E l)]⟩ ⟨(t, .a t (j - i)) :: sl, (t, .ro E ((l.drop i).take (j - i))) :: (id, .ro E l) :: hp⟩ := by
  subst hs
  subst hl
  have hti : t ≠ id := by rintro rfl; rw [hf] at hc; cases hc
  refine ⟨⟨rfl, fun F s a w hs hpre => ?_⟩, ⟨?_, by simpa using hc, by simpa using hf⟩, rfl⟩
  · obtain ⟨β, hs⟩ := hs
    obtain ⟨p1, p2, p3⟩ := hpre
    have hn := p3 t (by simp)
    have hci := p2 (id, c) (by simp)
    have q : ∀ p ∈ insOf x (.a id l.length) ++ (I ++ J), a.tmps[p.1]? = some (p.2.den β) := fun p hp => hs.2.2.1 _ _ (p1 p hp)
    have ex := eval_of (evC_of hx) (fun p hp' => q p (List.mem_append_left _ hp'))
    have hok := hs.2.2.2.1.1 _ _ hci
    have hrd := hr.read hok
    have hcap : l.length ≤ (β id).cap ∨ l = [] := by
      by_cases h0 : l = []
      · exact .inr h0
      · exact .inl (hrd h0).1.2
    have hjc : j ≤ (β id).cap := by
      rcases hcap with h | h
      · omega
      · subst h
        simp at hjn
        omega
    have hb := run_sliceBounds (P := P) (w := w) (s := true) (cap := (β id).cap) hlo hhi (fun p hp' => q p (List.mem_append_right _ (List.mem_append_left _ hp'))) (fun p hp' => q p (List.mem_append_right _ (List.mem_append_right _ hp'))) hij hjc
    let b := subBI (β id) E.size i (decide (0 < j - i))
    have hrun : (execOp a.eval ⟨some t, .slice T x lo hi none, ty, pos, af, g⟩).run P w = .ok (.value ((SV.a t (j - i)).den (upd β t b))) w := by
      simp only [execOp, ex, SV.den, Instr.sliceAt, Sem.run_bind, run_underlying hT.h, Result.andThen_ok, Instr.slice, Option.map_none, hb, run_sizeOf' hT.hn, Sem.run_pure, upd_same]
      by_cases h0 : 0 < j - i
      · have hne : l ≠ [] := by rintro rfl; simp at hjn; omega
        obtain ⟨⟨k1, k2⟩, _⟩ := hrd hne
        rw [if_neg (by omega)]
        simp only [b, subBI, decide_eq_true h0, cond_true, BI.dn, k1, cond_false, Option.map_some, add_lit]
      · simp only [b, subBI, decide_eq_false h0, cond_false, BI.dn, cond_true]
    refine Oper.wp_ok hrun ?_
    have one : ∀ {k d}, getL [(t, Chunk.ro E ((l.drop i).take (j - i))), (id, .ro E l)] k = some d → (k = t ∧ d = .ro E ((l.drop i).take (j - i))) ∨ (k = id ∧ d = .ro E l) := by
      intro k d hk
      rw [getL_cons] at hk
      split at hk
      · rename_i e1
        injection hk with hk
        exact .inl ⟨e1.symm, hk.symm⟩
      · rw [getL_cons] at hk
        split at hk
        · rename_i e1
          injection hk with hk
          exact .inr ⟨e1.symm, hk.symm⟩
        · simp [getL] at hk
    have bid : upd β t b id = β id := upd_other _ _ (Ne.symm hti)
    have some_id : (getL [(t, Chunk.ro E ((l.drop i).take (j - i))), (id, .ro E l)] id).isSome = true := by
      rw [getL_cons, if_neg hti, getL_cons, if_pos rfl]
      rfl
    have blk : ∀ g, l ≠ [] → g = (β id).B → Bl β id c g := by
      intro g hne hg
      rcases hr.h with rfl | rfl | ⟨e', rfl⟩
      · exact ⟨hne, hg⟩
      · exact ⟨hne, hg⟩
      · exact ⟨(hrd hne).1.1, hg⟩
    have hmv := hs.move (β' := upd β t b) (w' := w) (T := fun _ => False) [(t, .ro E ((l.drop i).take (j - i))), (id, .ro E l)] (upd_old hn) (Fr.refl _ w) (fun _ h => h.elim)
      (fun k d hk => by
        rcases one hk with ⟨rfl, rfl⟩ | ⟨rfl, rfl⟩
        · exact sub_rd hrd (by omega)
        · have : RdOk (upd β t b) k w E l := by
            unfold RdOk
            rw [bid]
            exact hrd
          exact this)
      (fun k d g hk hg => by
        rcases one hk with ⟨rfl, rfl⟩ | ⟨rfl, rfl⟩ <;> exact hg.elim)
      (fun k d g hk hg => by
        rcases one hk with ⟨rfl, rfl⟩ | ⟨rfl, rfl⟩
        · obtain ⟨hne, hg⟩ := hg
          have h0 : 0 < j - i := by
            rcases Nat.eq_zero_or_pos (j - i) with h | h
            · rw [h] at hne
              simp at hne
            · exact h
          rw [upd_same] at hg
          simp only [b, subBI, decide_eq_true h0, cond_true] at hg
          exact .inr ⟨id, c, hci, blk g (by rintro rfl; simp at hjn; omega) hg, .inl some_id⟩
        · obtain ⟨hne, hg⟩ := hg
          rw [bid] at hg
          exact .inr ⟨k, c, hci, blk g hne hg, .inl some_id⟩)
      (fun k k' d d' _ hk _ g hg _ => by
        rcases one hk with ⟨rfl, rfl⟩ | ⟨rfl, rfl⟩ <;> exact hg.elim)
      (fun k d hk q hq => by
        rcases one hk with ⟨rfl, rfl⟩ | ⟨rfl, rfl⟩ <;> simp [Chunk.ids] at hq)
    have hput := hmv.put (t := t) (x := .a t (j - i)) (by simp [Nat.blt] at ht; omega) (fun k hk => by
      have : k = t := by simpa [SV.ids] using hk
      subst this
      simp [getL_cons])
    exact ⟨_, hput⟩
  · intro p hp'
    rcases List.mem_append.1 hp' with h1 | h1
    · exact insOf_pre (s := ⟨sl, hp⟩) hx p h1
    · rcases List.mem_append.1 h1 with h1 | h1
      · exact hlo.pre p h1
      · exact hhi.pre p h1
end
end Go.Proofs.Ytiboffhdabeiiaa

/-
  The symbolic state: strings, arrays of bytes. Plain lemmas over any program.
-/
namespace Go.Proofs.Ytiboffhdabeiiaa
open Go Go.RowKit

def eInt : Enc Int where
  size := 1
  enc n := [.int .i64 n]
  dec | [.int .i64 n] => some n
      | _ => none
  zero := 0
  len _ := rfl
  pos := by decide
  one := by intro a u hu; simp at hu; subst hu; rfl
  decL := by
    intro l a h
    split at h
    · injection h with h; subst h; rfl
    · cases h
def eByt : Enc Nat where
  size := 1
  enc n := [.int .u8 (n : Int)]
  dec | [.int .u8 (.ofNat n)] => some n
      | _ => none
  zero := 0
  len _ := rfl
  pos := by decide
  one := by intro a u hu; simp at hu; subst hu; rfl
  decL := by
    intro l a h
    split at h
    · injection h with h; subst h; rfl
    · cases h
def eBool : Enc Bool where
  size := 1
  enc b := [.bool b]
  dec | [.bool b] => some b
      | _ => none
  zero := false
  len _ := rfl
  pos := by decide
  one := by intro a u hu; simp at hu; subst hu; rfl
  decL := by
    intro l a h
    split at h
    · injection h with h; subst h; rfl
    · cases h

class TyStr (P : Program) (T : TypeId) : Prop where
  h : P.underlying T = some .string
/-- A string by its bytes. -/
def bs (l : List Nat) : ByteArray := ⟨(l.map UInt8.ofNat).toArray⟩
@[reducible] def stv (l : List Nat) : SV := .v (.string (bs l))
theorem bs_size (l : List Nat) : (bs l).size = l.length := by simp [bs, ByteArray.size]
theorem bs_append (l m : List Nat) : bs l ++ bs m = bs (l ++ m) := by
  apply ByteArray.ext
  rw [ByteArray.data_append]
  simp [bs]
theorem bs_push (l : List Nat) (b : Nat) : (bs l).push (UInt8.ofNat b) = bs (l ++ [b]) := by
  apply ByteArray.ext
  simp [bs, ByteArray.push]
theorem bs_inj {l m : List Nat} (hl : ∀ x ∈ l, x < 256) (hm : ∀ x ∈ m, x < 256) : bs l = bs m ↔ l = m := by
  constructor
  · intro h
    have h1 : (bs l).data.toList = (bs m).data.toList := by rw [h]
    simp only [bs] at h1
    have h2 := congrArg (List.map UInt8.toNat) h1
    simp only [List.map_map] at h2
    have e : ∀ k : List Nat, (∀ x ∈ k, x < 256) → k.map (UInt8.toNat ∘ UInt8.ofNat) = k := by
      intro k hk
      induction k with
      | nil => rfl
      | cons a k ih =>
        rw [List.map_cons, ih (fun x hx => hk x (List.mem_cons_of_mem _ hx))]
        congr 1
        simp
        exact hk a (List.mem_cons_self ..)
    rwa [e l hl, e m hm] at h2
  · rintro rfl; rfl
theorem bs_foldl (ns : List Int) (l : List Nat) : ns.foldl (fun r n => r.push (UInt8.ofNat n.toNat)) (bs l) = bs (l ++ ns.map Int.toNat) := by
  induction ns generalizing l with
  | nil => simp
  | cons n ns ih => rw [List.foldl_cons, bs_push, ih]; simp

theorem flat_byt (l : List Nat) : flat eByt l = l.map fun b : Nat => Value.int .u8 (b : Int) := by
  induction l with
  | nil => rfl
  | cons x l ih =>
    have : flat eByt (x :: l) = eByt.enc x ++ flat eByt l := by simp [flat]
    rw [this, ih]
    rfl
theorem eByt_size : eByt.size = 1 := rfl
section
variable {P : Program} {nt : Nat} {o : Oper} {sl : List (Nat × SV)} {hp : List (Nat × Chunk)} {t : Nat}
variable {ty : TypeId} {pos : String} {af : Array Edge} {g : Option (Nat × Bool)}

theorem OpR.strEql {T T' : TypeId} {x y : Operand} {l m : List Nat} (hl : ∀ x ∈ l, x < 256) (hm : ∀ x ∈ m, x < 256) (hx : evS sl x = some (stv l)) (hy : evS sl y = some (.v (.string (bs m)))) (ht : Nat.blt t nt = true) :
    OpR P nt ⟨sl, hp⟩ ⟨some t, .binOp .eql T x y T', ty, pos, af, g⟩ ⟨insOf x (stv l) ++ insOf y (stv m), [], [], some t, .v (.bool (decide (l = m))), []⟩ ⟨(t, .v (.bool (decide (l = m)))) :: sl, hp⟩ :=
  OpR.binv hx hy ht fun w => by
    have e : ((bs l).toList == (bs m).toList) = decide (l = m) := by
      rw [ByteArray.toList_eq, ByteArray.toList_eq, Bool.eq_iff_iff]
      simp only [beq_iff_eq, decide_eq_true_eq, Array.toList_inj]
      rw [← bs_inj hl hm, ByteArray.ext_iff]
    simp only [Sem.run_bind, eqGuard, ite_self, Sem.run_pure, Result.andThen_ok, binOp_string_eql, e]
theorem OpR.strNeq {T T' : TypeId} {x y : Operand} {l m : List Nat} (hl : ∀ x ∈ l, x < 256) (hm : ∀ x ∈ m, x < 256) (hx : evS sl x = some (stv l)) (hy : evS sl y = some (.v (.string (bs m)))) (ht : Nat.blt t nt = true) :
    OpR P nt ⟨sl, hp⟩ ⟨some t, .binOp .neq T x y T', ty, pos, af, g⟩ ⟨insOf x (stv l) ++ insOf y (stv m), [], [], some t, .v (.bool (decide (l ≠ m))), []⟩ ⟨(t, .v (.bool (decide (l ≠ m)))) :: sl, hp⟩ :=
  OpR.binv hx hy ht fun w => by
    have e : (!((bs l).toList == (bs m).toList)) = decide (l ≠ m) := by
      rw [ByteArray.toList_eq, ByteArray.toList_eq, Bool.eq_iff_iff]
      simp only [Bool.not_eq_true', beq_eq_false_iff_ne, decide_eq_true_eq, ne_eq, Array.toList_inj]
      rw [← bs_inj hl hm, ByteArray.ext_iff]
    simp only [Sem.run_bind, eqGuard, ite_self, Sem.run_pure, Result.andThen_ok, binOp_string_neq, e]
theorem OpR.strAdd {T T' : TypeId} {x y : Operand} {l m : List Nat} (h : l.length + m.length ≤ 1000000) (hx : evS sl x = some (.v (.string (bs l)))) (hy : evS sl y = some (.v (.string (bs m)))) (ht : Nat.blt t nt = true) :
    OpR P nt ⟨sl, hp⟩ ⟨some t, .binOp .add T x y T', ty, pos, af, g⟩ ⟨insOf x (stv l) ++ insOf y (stv m), [], [], some t, stv (l ++ m), []⟩ ⟨(t, stv (l ++ m)) :: sl, hp⟩ :=
  OpR.binv hx hy ht fun w => by
    simp only [Sem.run_bind, eqGuard, ite_self, Sem.run_pure, Result.andThen_ok, binOp_string_add]
    rw [run_string_add_sum w _ _ (by rw [bs_size, bs_size]; omega), bs_append]
theorem OpR.strLen {T : TypeId} {x : Operand} {l : List Nat} [hT : TyStr P T] (hx : evS sl x = some (.v (.string (bs l)))) (ht : Nat.blt t nt = true) :
    OpR P nt ⟨sl, hp⟩ ⟨some t, .call { callee := .builtin .len, args := #[x], argTypes := #[T] }, ty, pos, af, g⟩ ⟨insOf x (stv l), [], [], some t, .v (.int .i64 (l.length : Int)), []⟩ ⟨(t, .v (.int .i64 (l.length : Int))) :: sl, hp⟩ :=
  OpR.q1 rfl ht hx (fun j hj => by simp [SV.ids] at hj) fun β a w h1 => by
    simp [execOp, resolve, invoke, builtin, h1, SV.den, Builtin.len_, run_underlying hT.h, goInt, bs_size]
theorem OpR.strIndex {T : TypeId} {x y : Operand} {l : List Nat} {k b : Nat} {kd : IntKind} [hT : TyStr P T] (hl : ∀ x ∈ l, x < 256) (hb : l[k]? = some b) (hx : evS sl x = some (.v (.string (bs l)))) (hy : evS sl y = some (.v (.int kd (k : Int)))) (ht : Nat.blt t nt = true) :
    OpR P nt ⟨sl, hp⟩ ⟨some t, .index T x y, ty, pos, af, g⟩ ⟨insOf x (stv l) ++ insOf y (.v (.int kd (k : Int))), [], [], some t, .v (.int .u8 (b : Int)), []⟩ ⟨(t, .v (.int .u8 (b : Int))) :: sl, hp⟩ :=
  OpR.q2 rfl ht hx hy (fun j hj => by simp [SV.ids] at hj) fun β a w h1 h2 => by
    have e : (bs l)[k]? = some (UInt8.ofNat b) := by
      obtain ⟨h3, h4⟩ := List.getElem?_eq_some_iff.1 hb
      rw [getElem?_pos (bs l) k (by rw [bs_size]; exact h3)]
      simp [bs, ByteArray.getElem_eq_getElem_data, h4]
    have hb' : b < 256 := hl b (List.mem_of_getElem? hb)
    simp only [execOp, h1, h2, SV.den, Instr.index, asIntOf, Sem.run_bind, Sem.run_pure, Result.andThen_ok, run_underlying hT.h]
    rw [if_pos (by omega), Int.toNat_natCast, e]
    simp [Nat.mod_eq_of_lt hb']
theorem bs_extract (l : List Nat) (i j : Nat) : (bs l).extract i j = bs ((l.take j).drop i) := by
  apply ByteArray.ext
  rw [ByteArray.data_extract]
  apply Array.ext'
  simp [bs, List.map_drop, List.map_take, List.extract_eq_take_drop, List.drop_take]
theorem OpR.strSlice {T : TypeId} {x : Operand} {lo hi : Option Operand} {I J : List (Nat × SV)} {l : List Nat} {i j : Nat} [hT : TyStr P T] (hx : evS sl x = some (.v (.string (bs l)))) (hlo : Bnd sl 0 lo I i) (hhi : Bnd sl l.length hi J j) (hij : i ≤ j) (hjn : j ≤ l.length) (ht : Nat.blt t nt = true) :
    OpR P nt ⟨sl, hp⟩ ⟨some t, .slice T x lo hi none, ty, pos, af, g⟩ ⟨insOf x (stv l) ++ (I ++ J), [], [], some t, stv ((l.take j).drop i), []⟩ ⟨(t, stv ((l.take j).drop i)) :: sl, hp⟩ := by
  refine ⟨StepOk.quiet rfl (by simp [Nat.blt] at ht; omega) (fun s _ _ _ i hi => by simp [SV.ids] at hi) (fun F β a w hp' _ => ?_), ⟨?_, by simp, by simp⟩, rfl⟩
  · have ex := eval_of (evC_of hx) (fun p hp => hp' p (List.mem_append_left _ hp))
    have hb := run_sliceBounds (P := P) (w := w) (s := false) (cap := l.length) hlo hhi (fun p hp => hp' p (List.mem_append_right _ (List.mem_append_left _ hp))) (fun p hp => hp' p (List.mem_append_right _ (List.mem_append_right _ hp))) hij hjn
    simp only [execOp, ex, SV.den, Instr.sliceAt, Sem.run_bind, run_underlying hT.h, Result.andThen_ok, Instr.slice, Option.map_none, Option.isSome_none, Bool.false_eq_true, if_false, Sem.run_pure, bs_size, hb, bs_extract]
  · intro p hp'
    rcases List.mem_append.1 hp' with h1 | h1
    · exact insOf_pre (s := ⟨sl, hp⟩) hx p h1
    · rcases List.mem_append.1 h1 with h1 | h1
      · exact hlo.pre p h1
      · exact hhi.pre p h1
/-! ### An array of bytes -/
def eB8 : Enc Int where
  size := 1
  enc n := [.int .u8 n]
  dec | [.int .u8 n] => some n
      | _ => none
  zero := 0
  len _ := rfl
  pos := by decide
  one := by intro a u hu; simp at hu; subst hu; rfl
  decL := by
    intro l a h
    split at h
    · injection h with h; subst h; rfl
    · cases h
theorem flat_b8 (l : List Int) : flat eB8 l = l.map fun b : Int => Value.int .u8 b := by
  induction l with
  | nil => rfl
  | cons x l ih =>
    have : flat eB8 (x :: l) = eB8.enc x ++ flat eB8 l := by simp [flat]
    rw [this, ih]
    rfl
theorem eB8_size : eB8.size = 1 := rfl
def byS (l : List Int) : List SV := l.map fun b : Int => .v (.int .u8 b)
theorem OpR.convStr {S T e : TypeId} {sz : Nat} {x : Operand} {id n : Nat} {c : Chunk} {l : List Int} [hS : TySlice P S e sz] [he : TyInt P e .u8] [hT : TyStr P T] (hx : evS sl x = some (.a id n)) (hc : getL hp id = some c) [hr : RowC c eB8 l] (hl : l.length = n) (ht : Nat.blt t nt = true) :
    OpR P nt ⟨sl, hp⟩ ⟨some t, .convert S T x, ty, pos, af, g⟩ ⟨insOf x (.a id n), [(id, c)], [], some t, stv (l.map Int.toNat), []⟩ ⟨(t, stv (l.map Int.toNat)) :: sl, hp⟩ := by
  refine OpR.look rfl ht hx hc (fun i hi => by simp [SV.ids] at hi) fun F β a w h1 h3 => ?_
  subst hl
  have hrd := hr.read h3
  have conv : (convert S T (.slice (β id).dn l.length (β id).cap)).run P w = .ok (.string (bs (l.map Int.toNat))) w := by
    rw [run_convert_bytes_string w S T e _ _ _ hS.h he.h hT.h]
    cases hd : (β id).dn with
    | none =>
      have : l = [] := by
        cases l with
        | nil => rfl
        | cons b l =>
          have := (hrd (by simp)).1.1
          simp [BI.dn, this] at hd
      subst this
      rfl
    | some ad =>
      have hcells : (loadCells ad l.length).run P w = .ok (l.map (Value.int .u8)).toArray w := by
        cases l with
        | nil => rfl
        | cons b r =>
          obtain ⟨⟨k1, _⟩, k2⟩ := hrd (by simp)
          have hd' : ad = ⟨(β id).B, (β id).O, none⟩ := by simp [BI.dn, k1] at hd; exact hd.symm
          subst hd'
          have := run_loadCells_list (P := P) (w := w) ⟨(β id).B, (β id).O, none⟩ (flat eB8 (b :: r)) (fun i v hv => by rw [add_lit]; exact k2 i v hv)
          rw [flat_len, eB8_size, Nat.mul_one] at this
          rw [this, flat_b8]
      rw [run_bytesToString w ad l.length _ _ hcells]
      have := bs_foldl l []
      rw [show (ByteArray.empty : ByteArray) = bs [] from rfl, this]
      simp
  simp only [execOp, h1, SV.den, Sem.run_bind, conv, Result.andThen_ok, Sem.run_pure]

class TyArr (P : Program) (T : TypeId) (n : outParam Nat) (e : outParam TypeId) (sz : outParam Nat) : Prop where
  h : P.underlying T = some (.array n e)
  hn : (P.info? e).map (·.size) = some sz
theorem OpR.indexArrE {T : TypeId} {x y : Operand} {id m : Nat} {i : Int} {e sz : Nat} {kd : IntKind} [hT : TyArr P T m e sz] (hx : evS sl x = some (.e id sz 0 0)) (hy : evS sl y = some (.v (.int kd i))) (h0 : 0 ≤ i) (hk : i < m) (ht : Nat.blt t nt = true) :
    OpR P nt ⟨sl, hp⟩ ⟨some t, .indexAddr T x y, ty, pos, af, g⟩ ⟨insOf x (.e id sz 0 0) ++ insOf y (.v (.int kd i)), [], [], some t, .e id sz i.toNat 0, []⟩ ⟨(t, .e id sz i.toNat 0) :: sl, hp⟩ :=
  OpR.q2 rfl ht hx hy (fun j hj => .inl hj) fun β a w h1 h2 => by
    obtain ⟨k, rfl⟩ := Int.eq_ofNat_of_zero_le h0
    have hk' : k < m := by omega
    simp [execOp, h1, h2, SV.den, Instr.indexAt, asIntOf, run_underlying hT.h, hk', run_sizeOf' hT.hn, add_lit, Instr.sureAddr]
theorem den_byS (β : Nat → BI) (l : List Int) : denL β (byS l) = flat eB8 l := by
  rw [flat_b8, denL_eq, byS, List.map_map]
  rfl
/-- An array's cells, as a row that may be written. -/
theorem TL.viewArr {fx : List Nat} {k : List It} {K : Exit → St → Prop} (u id id' : Nat) {T : TypeId} (l : List Int) (hu : getL sl u = some (.p id 0)) (hc : getL hp id = some (.cells T (byS l))) (_hn : Nat.blt u nt = true) (hi : getL hp id' = none)
    (h : TL P nt fx k ⟨(u, .e id' 1 0 0) :: sl, (id', .mt eB8 l) :: (id, .dead) :: hp⟩ K) : TL P nt fx k ⟨sl, hp⟩ K := .mk fun F a w hf hs => by
  refine h.run F a w hf ?_
  obtain ⟨β, hs⟩ := hs
  have hti : id' ≠ id := by rintro rfl; rw [hi] at hc; cases hc
  have hok := hs.2.2.2.1.1 _ _ hc
  obtain ⟨k1, k2, k3, k4⟩ := hok
  let b : BI := ⟨false, (β id).B, 0, l.length, none, []⟩
  have one : ∀ {k d}, getL [(id', Chunk.mt eB8 l), (id, .dead)] k = some d → (k = id' ∧ d = .mt eB8 l) ∨ (k = id ∧ d = .dead) := by
    intro k d hk
    rw [getL_cons] at hk
    split at hk
    · rename_i e1
      injection hk with hk
      exact .inl ⟨e1.symm, hk.symm⟩
    · rw [getL_cons] at hk
      split at hk
      · rename_i e1
        injection hk with hk
        exact .inr ⟨e1.symm, hk.symm⟩
      · simp [getL] at hk
  have some_id : (getL [(id', Chunk.mt eB8 l), (id, .dead)] id).isSome = true := by
    rw [getL_cons, if_neg hti, getL_cons, if_pos rfl]
    rfl
  have hmv := hs.move (β' := upd β id' b) (w' := w) (T := fun _ => False) [(id', .mt eB8 l), (id, .dead)] (upd_old hi) (Fr.refl _ w) (fun _ h => h.elim)
    (fun k d hk => by
      rcases one hk with ⟨rfl, rfl⟩ | ⟨rfl, rfl⟩
      · have e1 : RdOk (upd β k b) k w eB8 l := by
          intro _
          rw [upd_same]
          refine ⟨⟨rfl, by simp [b]⟩, fun j u hu => ?_⟩
          rw [cell_of_row w _ _ _ T (0, 0) k3, den_byS]
          simpa [b] using hu
        have e2 : ChOk F (upd β k b) k w (.mt eB8 l) := by
          refine ⟨e1, fun _ => ?_⟩
          rw [upd_same]
          exact ⟨k4, fun j _ => by simp [World.frozen?, b, k3]⟩
        exact e2
      · trivial)
    (fun k d g hk hg => by
      rcases one hk with ⟨rfl, rfl⟩ | ⟨rfl, rfl⟩
      · obtain ⟨_, hg⟩ := hg
        rw [upd_same] at hg
        exact .inr ⟨id, _, hc, some_id, hg⟩
      · exact hg.elim)
    (fun k d g hk hg => by
      rcases one hk with ⟨rfl, rfl⟩ | ⟨rfl, rfl⟩
      · obtain ⟨_, hg⟩ := hg
        rw [upd_same] at hg
        exact .inr ⟨id, _, hc, hg, .inl some_id⟩
      · exact hg.elim)
    (fun k k' d d' hne hk hk' g hg hb => by
      rcases one hk with ⟨rfl, rfl⟩ | ⟨rfl, rfl⟩
      · rcases one hk' with ⟨rfl, rfl⟩ | ⟨rfl, rfl⟩
        · exact hne rfl
        · exact hb.elim
      · exact hg.elim)
    (fun k d hk q hq => by
      rcases one hk with ⟨rfl, rfl⟩ | ⟨rfl, rfl⟩ <;> simp [Chunk.ids] at hq)
  obtain ⟨m1, m2, m3, m4, m5, m6⟩ := hmv
  refine ⟨_, m1, m2, ?_, m4, ⟨?_, m5.2⟩, m6⟩
  · intro v y hv
    simp only [getL_cons] at hv
    split at hv
    · rename_i e
      subst e
      injection hv with hv
      subst hv
      rw [hs.2.2.1 _ _ hu]
      simp [SV.den, upd_same, b]
    · exact m3 v y hv
  · intro v y hv i hi'
    simp only [getL_cons] at hv
    split at hv
    · injection hv with hv
      subst hv
      have : i = id' := by simpa [SV.ids] using hi'
      subst this
      simp [getL_cons]
    · exact m5.1 v y hv i hi'
/-- An array's rest, that from now on is only read. -/
theorem OpR.sliceArrE {T : TypeId} {x y : Operand} {m id e sz : Nat} {i : Int} {kd : IntKind} {l : List Int} [hT : TyArr P T m e sz] (hx : evS sl x = some (.e id 1 0 0)) (hy : evS sl y = some (.v (.int kd i))) (hc : getL hp id = some (.mt eB8 l)) (hs : sz = 1) (hl : l.length = m) (h0 : 0 ≤ i) (hi : i < m) (ht : Nat.blt t nt = true) (hf : getL hp t = none) :
    OpR P nt ⟨sl, hp⟩ ⟨some t, .slice T x (some y) none none, ty, pos, af, g⟩ ⟨insOf x (.e id 1 0 0) ++ insOf y (.v (.int kd i)), [(id, .mt eB8 l)], [t], some t, .a t (m - i.toNat), [(t, .ro eB8 (l.drop i.toNat)), (id, .dead)]⟩ ⟨(t, .a t (m - i.toNat)) :: sl, (t, .ro eB8 (l.drop i.toNat)) :: (id, .dead) :: hp⟩ := by
  subst hs
  subst hl
  obtain ⟨i, rfl⟩ := Int.eq_ofNat_of_zero_le h0
  rw [Int.toNat_natCast]
  have hti : t ≠ id := by rintro rfl; rw [hf] at hc; cases hc
  refine ⟨⟨rfl, fun F s a w hs hpre => ?_⟩, ⟨?_, by simpa using hc, by simpa using hf⟩, rfl⟩
  · obtain ⟨β, hs⟩ := hs
    obtain ⟨p1, p2, p3⟩ := hpre
    have hn := p3 t (by simp)
    have hci := p2 (id, .mt eB8 l) (by simp)
    have q : ∀ p ∈ insOf x (.e id 1 0 0) ++ insOf y (.v (.int kd (i : Int))), a.tmps[p.1]? = some (p.2.den β) := fun p hp => hs.2.2.1 _ _ (p1 p hp)
    have ex := eval_of (evC_of hx) (fun p hp' => q p (List.mem_append_left _ hp'))
    have ey := eval_of (evC_of hy) (fun p hp' => q p (List.mem_append_right _ hp'))
    have hok := hs.2.2.2.1.1 _ _ hci
    have hlne : l ≠ [] := by rintro rfl; simp at hi; omega
    obtain ⟨⟨k1, k2⟩, k3⟩ := hok.1 hlne
    let b : BI := ⟨false, (β id).B, (β id).O + i, l.length - i, none, []⟩
    have hrun : (execOp a.eval ⟨some t, .slice T x (some y) none none, ty, pos, af, g⟩).run P w = .ok (.value ((SV.a t (l.length - i)).den (upd β t b))) w := by
      have hne : ¬ l.length = i := by omega
      simp only [execOp, ex, SV.den, Instr.sliceAt, Sem.run_bind, run_underlying hT.h, Result.andThen_ok, Instr.sureAddr, Sem.run_pure, Instr.sliceBounds, Option.map_some, Option.map_none, ey, run_sliceBound _ (show i ≤ l.length by omega), run_sizeOf' hT.hn, upd_same]
      simp [b, BI.dn, hne, add_lit]
    refine Oper.wp_ok hrun ?_
    have one : ∀ {k d}, getL [(t, Chunk.ro eB8 (l.drop i)), (id, .dead)] k = some d → (k = t ∧ d = .ro eB8 (l.drop i)) ∨ (k = id ∧ d = .dead) := by
      intro k d hk
      rw [getL_cons] at hk
      split at hk
      · rename_i e1
        injection hk with hk
        exact .inl ⟨e1.symm, hk.symm⟩
      · rw [getL_cons] at hk
        split at hk
        · rename_i e1
          injection hk with hk
          exact .inr ⟨e1.symm, hk.symm⟩
        · simp [getL] at hk
    have some_id : (getL [(t, Chunk.ro eB8 (l.drop i)), (id, .dead)] id).isSome = true := by
      rw [getL_cons, if_neg hti, getL_cons, if_pos rfl]
      rfl
    have hmv := hs.move (β' := upd β t b) (w' := w) (T := fun _ => False) [(t, .ro eB8 (l.drop i)), (id, .dead)] (upd_old hn) (Fr.refl _ w) (fun _ h => h.elim)
      (fun k d hk => by
        rcases one hk with ⟨rfl, rfl⟩ | ⟨rfl, rfl⟩
        · have : RdOk (upd β k b) k w eB8 (l.drop i) := by
            intro _
            rw [upd_same]
            refine ⟨⟨rfl, by simp [b]⟩, fun j u hu => ?_⟩
            rw [flat_drop, eB8_size, Nat.mul_one, List.getElem?_drop] at hu
            simpa [b, Nat.add_assoc] using k3 (i + j) u hu
          exact this
        · trivial)
      (fun k d g hk hg => by
        rcases one hk with ⟨rfl, rfl⟩ | ⟨rfl, rfl⟩ <;> exact hg.elim)
      (fun k d g hk hg => by
        rcases one hk with ⟨rfl, rfl⟩ | ⟨rfl, rfl⟩
        · obtain ⟨_, hg⟩ := hg
          rw [upd_same] at hg
          exact .inr ⟨id, _, hci, ⟨hlne, hg⟩, .inl some_id⟩
        · exact hg.elim)
      (fun k k' d d' _ hk _ g hg _ => by
        rcases one hk with ⟨rfl, rfl⟩ | ⟨rfl, rfl⟩ <;> exact hg.elim)
      (fun k d hk q hq => by
        rcases one hk with ⟨rfl, rfl⟩ | ⟨rfl, rfl⟩ <;> simp [Chunk.ids] at hq)
    have hput := hmv.put (t := t) (x := .a t (l.length - i)) (by simp [Nat.blt] at ht; omega) (fun k hk => by
      have : k = t := by simpa [SV.ids] using hk
      subst this
      simp [getL_cons])
    exact ⟨_, hput⟩
  · intro p hp'
    rcases List.mem_append.1 hp' with h1 | h1
    · exact insOf_pre (s := ⟨sl, hp⟩) hx p h1
    · exact insOf_pre (s := ⟨sl, hp⟩) hy p h1
end
end Go.Proofs.Ytiboffhdabeiiaa

/-
  The symbolic state: elements of rows; the steps with their side conditions shown as they come. Plain lemmas over any program.
-/
namespace Go.Proofs.Ytiboffhdabeiiaa
open Go Go.RowKit

section
variable {P : Program} {nt : Nat} {sl : List (Nat × SV)} {hp : List (Nat × Chunk)} {fx : List Nat} {k : List It} {K : Exit → St → Prop}

theorem OpR.loadG {t : Nat} {ty : TypeId} {pos : String} {af : Array Edge} {g : Option (Nat × Bool)} {T : TypeId} {x : Operand} {id size q j n : Nat} {α : Type} {c : Chunk} {E : Enc α} {l : List α} {u : Value} [hT : TyShape P T false n] (hx : evS sl x = some (.e id size q j)) (hc : getL hp id = some c) [hr : RowC c E l]
    (hs : E.size = size) (hq : q < l.length) (hu : (E.enc (l.getD q E.zero))[j]? = some u) (ht : Nat.blt t nt = true) :
    OpR P nt ⟨sl, hp⟩ ⟨some t, .load T x, ty, pos, af, g⟩ ⟨insOf x (.e id size q j), [(id, c)], [], some t, .v u, []⟩ ⟨(t, .v u) :: sl, hp⟩ :=
  OpR.loadE hx hc hs (by rw [List.getD_eq_getElem?_getD, List.getElem?_eq_getElem hq]; rfl) hu ht
theorem OpR.loadGA {t : Nat} {ty : TypeId} {pos : String} {af : Array Edge} {g : Option (Nat × Bool)} {T : TypeId} {x : Operand} {id size q j n : Nat} {α : Type} {c : Chunk} {E : Enc α} {l : List α} [hT : TyShape P T true n] (hx : evS sl x = some (.e id size q j)) (hc : getL hp id = some c) [hr : RowC c E l]
    (hs : E.size = size) (hq : q < l.length) (hu : Nat.ble (j + n) size = true) (ht : Nat.blt t nt = true) :
    OpR P nt ⟨sl, hp⟩ ⟨some t, .load T x, ty, pos, af, g⟩ ⟨insOf x (.e id size q j), [(id, c)], [], some t, .agg ((((E.enc (l.getD q E.zero)).drop j).take n).map SV.v), []⟩ ⟨(t, .agg ((((E.enc (l.getD q E.zero)).drop j).take n).map SV.v)) :: sl, hp⟩ :=
  OpR.loadEA hx hc hs (by rw [List.getD_eq_getElem?_getD, List.getElem?_eq_getElem hq]; rfl) hu ht

theorem OpR.storeG {ty : TypeId} {pos : String} {af : Array Edge} {g : Option (Nat × Bool)} {T : TypeId} {x y : Operand} {id size q j n : Nat} {b : Bool} {α : Type} {c : Chunk} {E : Enc α} {l : List α} {mk : List α → Chunk} {u' : α} {Y : SV} {vs : List Value} [hT : TyShape P T b n] (hx : evS sl x = some (.e id size q j)) (hy : evS sl y = some Y) (hc : getL hp id = some c) [hr : WRow c E l mk]
    (hs : E.size = size) (hq : q < l.length) (hY : Y.flatOk = true) (hv : valsL Y.cellsS = some vs) (hn : Nat.beq vs.length n = true) (hl : Nat.ble (j + n) size = true) (hd : E.dec ((E.enc (l.getD q E.zero)).take j ++ (vs ++ (E.enc (l.getD q E.zero)).drop (j + vs.length))) = some u') :
    OpR P nt ⟨sl, hp⟩ ⟨none, .store T x y, ty, pos, af, g⟩ ⟨insOf x (.e id size q j) ++ insOf y Y, [(id, c)], [], none, .v undef, [(id, mk (l.set q u'))]⟩ ⟨sl, (id, mk (l.set q u')) :: hp⟩ :=
  OpR.storeE hx hy hc hs (by rw [List.getD_eq_getElem?_getD, List.getElem?_eq_getElem hq]; rfl) hY hv hn hl hd
/-- A struct of two numbers. -/
class TyEq2 (P : Program) (T : TypeId) (k1 k2 : outParam IntKind) : Prop where
  e : ∀ (e1 e2 : Operand) (a b c d : Int) (w : World), (do eqGuard .eql T e1 e2 (.agg #[.int k1 a, .int k2 b]) (.agg #[.int k1 c, .int k2 d]); binOp .eql T (.agg #[.int k1 a, .int k2 b]) (.agg #[.int k1 c, .int k2 d]) : Sem Value).run P w = .ok (.bool (decide (a = c ∧ b = d))) w
  n : ∀ (e1 e2 : Operand) (a b c d : Int) (w : World), (do eqGuard .neq T e1 e2 (.agg #[.int k1 a, .int k2 b]) (.agg #[.int k1 c, .int k2 d]); binOp .neq T (.agg #[.int k1 a, .int k2 b]) (.agg #[.int k1 c, .int k2 d]) : Sem Value).run P w = .ok (.bool (decide (¬ (a = c ∧ b = d)))) w
section
variable {t : Nat} {ty : TypeId} {pos : String} {af : Array Edge} {g : Option (Nat × Bool)} {T T' : TypeId} {x y : Operand} {k1 k2 : IntKind} {a b c d : Int} [hT : TyEq2 P T k1 k2] (hx : evS sl x = some (.agg [.v (.int k1 a), .v (.int k2 b)])) (hy : evS sl y = some (.agg [.v (.int k1 c), .v (.int k2 d)])) (ht : Nat.blt t nt = true)
include hx hy ht hT
theorem OpR.eql2 : OpR P nt ⟨sl, hp⟩ ⟨some t, .binOp .eql T x y T', ty, pos, af, g⟩ ⟨insOf x (.agg [.v (.int k1 a), .v (.int k2 b)]) ++ insOf y (.agg [.v (.int k1 c), .v (.int k2 d)]), [], [], some t, .v (.bool (decide (a = c ∧ b = d))), []⟩ ⟨(t, .v (.bool (decide (a = c ∧ b = d)))) :: sl, hp⟩ :=
  OpR.binG hx hy ht fun _β w => hT.e x y a b c d w
theorem OpR.neq2 : OpR P nt ⟨sl, hp⟩ ⟨some t, .binOp .neq T x y T', ty, pos, af, g⟩ ⟨insOf x (.agg [.v (.int k1 a), .v (.int k2 b)]) ++ insOf y (.agg [.v (.int k1 c), .v (.int k2 d)]), [], [], some t, .v (.bool (decide (¬ (a = c ∧ b = d)))), []⟩ ⟨(t, .v (.bool (decide (¬ (a = c ∧ b = d))))) :: sl, hp⟩ :=
  OpR.binG hx hy ht fun _β w => hT.n x y a b c d w
end
theorem OpR.kLoad {t : Option Nat} {ty : TypeId} {pos : String} {af : Array Edge} {g : Option (Nat × Bool)} {a1 : TypeId} {a2 : Operand} {s s1 : St} {d : SD} (h : OpR P nt s ⟨t, .load a1 a2, ty, pos, af, g⟩ d s1) : OpR P nt s ⟨t, .load a1 a2, ty, pos, af, g⟩ d s1 := h
theorem OpR.kFA {t : Option Nat} {ty : TypeId} {pos : String} {af : Array Edge} {g : Option (Nat × Bool)} {a1 : TypeId} {a2 : Operand} {a3 : Nat} {s s1 : St} {d : SD} (h : OpR P nt s ⟨t, .fieldAddr a1 a2 a3, ty, pos, af, g⟩ d s1) : OpR P nt s ⟨t, .fieldAddr a1 a2 a3, ty, pos, af, g⟩ d s1 := h
theorem OpR.kIA {t : Option Nat} {ty : TypeId} {pos : String} {af : Array Edge} {g : Option (Nat × Bool)} {a1 : TypeId} {a2 a3 : Operand} {s s1 : St} {d : SD} (h : OpR P nt s ⟨t, .indexAddr a1 a2 a3, ty, pos, af, g⟩ d s1) : OpR P nt s ⟨t, .indexAddr a1 a2 a3, ty, pos, af, g⟩ d s1 := h
theorem OpR.kBin {t : Option Nat} {ty : TypeId} {pos : String} {af : Array Edge} {g : Option (Nat × Bool)} {a1 : BinOp} {a2 : TypeId} {a3 a4 : Operand} {a5 : TypeId} {s s1 : St} {d : SD} (h : OpR P nt s ⟨t, .binOp a1 a2 a3 a4 a5, ty, pos, af, g⟩ d s1) : OpR P nt s ⟨t, .binOp a1 a2 a3 a4 a5, ty, pos, af, g⟩ d s1 := h
theorem OpR.kCall {t : Option Nat} {ty : TypeId} {pos : String} {af : Array Edge} {g : Option (Nat × Bool)} {a1 : Call} {s s1 : St} {d : SD} (h : OpR P nt s ⟨t, .call a1, ty, pos, af, g⟩ d s1) : OpR P nt s ⟨t, .call a1, ty, pos, af, g⟩ d s1 := h
theorem OpR.kStore {t : Option Nat} {ty : TypeId} {pos : String} {af : Array Edge} {g : Option (Nat × Bool)} {a1 : TypeId} {a2 a3 : Operand} {s s1 : St} {d : SD} (h : OpR P nt s ⟨t, .store a1 a2 a3, ty, pos, af, g⟩ d s1) : OpR P nt s ⟨t, .store a1 a2 a3, ty, pos, af, g⟩ d s1 := h
theorem OpR.kMF {t : Option Nat} {ty : TypeId} {pos : String} {af : Array Edge} {g : Option (Nat × Bool)} {a1 : Fn} {a2 a3 : Array Operand} {s s1 : St} {d : SD} (h : OpR P nt s ⟨t, .makeFunc a1 a2 a3, ty, pos, af, g⟩ d s1) : OpR P nt s ⟨t, .makeFunc a1 a2 a3, ty, pos, af, g⟩ d s1 := h
theorem OpR.kPick {t : Option Nat} {ty : TypeId} {pos : String} {af : Array Edge} {g : Option (Nat × Bool)} {a1 a2 a3 : Operand} {s s1 : St} {d : SD} (h : OpR P nt s ⟨t, .pick a1 a2 a3, ty, pos, af, g⟩ d s1) : OpR P nt s ⟨t, .pick a1 a2 a3, ty, pos, af, g⟩ d s1 := h
theorem OpR.kMove {t : Option Nat} {ty : TypeId} {pos : String} {af : Array Edge} {g : Option (Nat × Bool)} {a1 : Operand} {s s1 : St} {d : SD} (h : OpR P nt s ⟨t, .move a1, ty, pos, af, g⟩ d s1) : OpR P nt s ⟨t, .move a1, ty, pos, af, g⟩ d s1 := h
theorem OpR.kAsg {t : Option Nat} {ty : TypeId} {pos : String} {af : Array Edge} {g : Option (Nat × Bool)} {a1 : Operand} {s s1 : St} {d : SD} (h : OpR P nt s ⟨t, .assign a1, ty, pos, af, g⟩ d s1) : OpR P nt s ⟨t, .assign a1, ty, pos, af, g⟩ d s1 := h
theorem OpR.kUn {t : Option Nat} {ty : TypeId} {pos : String} {af : Array Edge} {g : Option (Nat × Bool)} {a1 : UnOp} {a2 : TypeId} {a3 : Operand} {s s1 : St} {d : SD} (h : OpR P nt s ⟨t, .unOp a1 a2 a3, ty, pos, af, g⟩ d s1) : OpR P nt s ⟨t, .unOp a1 a2 a3, ty, pos, af, g⟩ d s1 := h
theorem OpR.kConv {t : Option Nat} {ty : TypeId} {pos : String} {af : Array Edge} {g : Option (Nat × Bool)} {a1 a2 : TypeId} {a3 : Operand} {s s1 : St} {d : SD} (h : OpR P nt s ⟨t, .convert a1 a2 a3, ty, pos, af, g⟩ d s1) : OpR P nt s ⟨t, .convert a1 a2 a3, ty, pos, af, g⟩ d s1 := h
theorem OpR.kExt {t : Option Nat} {ty : TypeId} {pos : String} {af : Array Edge} {g : Option (Nat × Bool)} {a1 : Operand} {a2 : Nat} {s s1 : St} {d : SD} (h : OpR P nt s ⟨t, .extract a1 a2, ty, pos, af, g⟩ d s1) : OpR P nt s ⟨t, .extract a1 a2, ty, pos, af, g⟩ d s1 := h
theorem OpR.kFld {t : Option Nat} {ty : TypeId} {pos : String} {af : Array Edge} {g : Option (Nat × Bool)} {a1 : TypeId} {a2 : Operand} {a3 : Nat} {s s1 : St} {d : SD} (h : OpR P nt s ⟨t, .field a1 a2 a3, ty, pos, af, g⟩ d s1) : OpR P nt s ⟨t, .field a1 a2 a3, ty, pos, af, g⟩ d s1 := h
theorem OpR.kBox {t : Option Nat} {ty : TypeId} {pos : String} {af : Array Edge} {g : Option (Nat × Bool)} {a1 : TypeId} {a2 : Operand} {s s1 : St} {d : SD} (h : OpR P nt s ⟨t, .box a1 a2, ty, pos, af, g⟩ d s1) : OpR P nt s ⟨t, .box a1 a2, ty, pos, af, g⟩ d s1 := h
theorem OpR.kAl {t : Option Nat} {ty : TypeId} {pos : String} {af : Array Edge} {g : Option (Nat × Bool)} {a1 : TypeId} {s s1 : St} {d : SD} (h : OpR P nt s ⟨t, .alloc a1, ty, pos, af, g⟩ d s1) : OpR P nt s ⟨t, .alloc a1, ty, pos, af, g⟩ d s1 := h
theorem OpR.kBld {t : Option Nat} {ty : TypeId} {pos : String} {af : Array Edge} {g : Option (Nat × Bool)} {a1 : TypeId} {a2 : Array (Nat × Operand)} {s s1 : St} {d : SD} (h : OpR P nt s ⟨t, .build a1 a2, ty, pos, af, g⟩ d s1) : OpR P nt s ⟨t, .build a1 a2, ty, pos, af, g⟩ d s1 := h
theorem OpR.kBS {t : Option Nat} {ty : TypeId} {pos : String} {af : Array Edge} {g : Option (Nat × Bool)} {a1 : TypeId} {a2 : Nat} {a3 : Array (Nat × Operand)} {s s1 : St} {d : SD} (h : OpR P nt s ⟨t, .buildSlice a1 a2 a3, ty, pos, af, g⟩ d s1) : OpR P nt s ⟨t, .buildSlice a1 a2 a3, ty, pos, af, g⟩ d s1 := h
theorem OpR.kSl {t : Option Nat} {ty : TypeId} {pos : String} {af : Array Edge} {g : Option (Nat × Bool)} {a1 : TypeId} {a2 : Operand} {a3 a4 a5 : Option Operand} {s s1 : St} {d : SD} (h : OpR P nt s ⟨t, .slice a1 a2 a3 a4 a5, ty, pos, af, g⟩ d s1) : OpR P nt s ⟨t, .slice a1 a2 a3 a4 a5, ty, pos, af, g⟩ d s1 := h
theorem OpR.kIx {t : Option Nat} {ty : TypeId} {pos : String} {af : Array Edge} {g : Option (Nat × Bool)} {a1 : TypeId} {a2 a3 : Operand} {s s1 : St} {d : SD} (h : OpR P nt s ⟨t, .index a1 a2 a3, ty, pos, af, g⟩ d s1) : OpR P nt s ⟨t, .index a1 a2 a3, ty, pos, af, g⟩ d s1 := h
theorem OpR.kRem {t : Option Nat} {ty : TypeId} {pos : String} {af : Array Edge} {g : Option (Nat × Bool)} {a2 : TypeId} {a3 a4 : Operand} {a5 : TypeId} {s s1 : St} {d : SD} (h : OpR P nt s ⟨t, .binOp .rem a2 a3 a4 a5, ty, pos, af, g⟩ d s1) : OpR P nt s ⟨t, .binOp .rem a2 a3 a4 a5, ty, pos, af, g⟩ d s1 := h
theorem OpR.kQuo {t : Option Nat} {ty : TypeId} {pos : String} {af : Array Edge} {g : Option (Nat × Bool)} {a2 : TypeId} {a3 a4 : Operand} {a5 : TypeId} {s s1 : St} {d : SD} (h : OpR P nt s ⟨t, .binOp .quo a2 a3 a4 a5, ty, pos, af, g⟩ d s1) : OpR P nt s ⟨t, .binOp .quo a2 a3 a4 a5, ty, pos, af, g⟩ d s1 := h
theorem OpR.kShr {t : Option Nat} {ty : TypeId} {pos : String} {af : Array Edge} {g : Option (Nat × Bool)} {a2 : TypeId} {a3 a4 : Operand} {a5 : TypeId} {s s1 : St} {d : SD} (h : OpR P nt s ⟨t, .binOp .shr a2 a3 a4 a5, ty, pos, af, g⟩ d s1) : OpR P nt s ⟨t, .binOp .shr a2 a3 a4 a5, ty, pos, af, g⟩ d s1 := h
theorem OpR.kShl {t : Option Nat} {ty : TypeId} {pos : String} {af : Array Edge} {g : Option (Nat × Bool)} {a2 : TypeId} {a3 a4 : Operand} {a5 : TypeId} {s s1 : St} {d : SD} (h : OpR P nt s ⟨t, .binOp .shl a2 a3 a4 a5, ty, pos, af, g⟩ d s1) : OpR P nt s ⟨t, .binOp .shl a2 a3 a4 a5, ty, pos, af, g⟩ d s1 := h
theorem OpR.kAnd {t : Option Nat} {ty : TypeId} {pos : String} {af : Array Edge} {g : Option (Nat × Bool)} {a2 : TypeId} {a3 a4 : Operand} {a5 : TypeId} {s s1 : St} {d : SD} (h : OpR P nt s ⟨t, .binOp .and a2 a3 a4 a5, ty, pos, af, g⟩ d s1) : OpR P nt s ⟨t, .binOp .and a2 a3 a4 a5, ty, pos, af, g⟩ d s1 := h
theorem OpR.kNC {t : Option Nat} {ty : TypeId} {pos : String} {af : Array Edge} {g : Option (Nat × Bool)} {a1 : Operand} {s s1 : St} {d : SD} (h : OpR P nt s ⟨t, .nilCheck a1, ty, pos, af, g⟩ d s1) : OpR P nt s ⟨t, .nilCheck a1, ty, pos, af, g⟩ d s1 := h
theorem OpR.kMS {t : Option Nat} {ty : TypeId} {pos : String} {af : Array Edge} {g : Option (Nat × Bool)} {a1 : TypeId} {a2 a3 : Operand} {s s1 : St} {d : SD} (h : OpR P nt s ⟨t, .makeSlice a1 a2 a3, ty, pos, af, g⟩ d s1) : OpR P nt s ⟨t, .makeSlice a1 a2 a3, ty, pos, af, g⟩ d s1 := h
/-- Tests that the context decides. -/
theorem DecT {p : Prop} [Decidable p] (h : p := by first | with_reducible assumption | omega) : decide p = true := decide_eq_true h
theorem DecF {p : Prop} [Decidable p] (h : ¬ p := by first | with_reducible assumption | omega) : decide p = false := decide_eq_false h
theorem BoT {b : Bool} (h : b = true := by first | with_reducible assumption | with_reducible rfl | (simp only [Bool.not_true, Bool.not_false, Option.isNone_none, Option.isNone_some]; done) | fail) : b = true := h
theorem BoF {b : Bool} (h : b = false := by first | with_reducible assumption | with_reducible rfl | (simp only [Bool.not_true, Bool.not_false, Option.isNone_none, Option.isNone_some]; done) | fail) : b = false := h
/-- One operation, by whatever law fits. -/
theorem GdA {b w : Bool} (h : b = w := by first | exact DecT | exact DecF | exact BoT | exact BoF) : b = w := h
theorem OpA {o : Oper} {s s1 : St} {d : SD} (h : OpR P nt s o d s1 := by
      first
        | (apply OpR.kMove; exact OpR.move rfl rfl)
        | (apply OpR.kAsg; exact OpR.assign rfl rfl)
        | (apply OpR.kLoad
           first
             | exact OpR.loadP rfl rfl rfl rfl
             | exact OpR.loadE rfl rfl rfl (by with_reducible assumption) rfl rfl
             | exact OpR.loadG rfl rfl rfl (by omega) rfl rfl
             | exact OpR.loadPA rfl rfl rfl rfl
             | exact OpR.loadEA rfl rfl rfl (by with_reducible assumption) rfl rfl
             | exact OpR.loadGA rfl rfl rfl (by omega) rfl rfl)
        | (apply OpR.kFA
           first
             | exact OpR.fieldAddrP rfl rfl
             | exact OpR.fieldAddrE rfl rfl)
        | (apply OpR.kIA
           first
             | exact OpR.indexAddr rfl rfl rfl (by omega) (by omega) rfl
             | exact OpR.indexAddrI rfl rfl rfl (by omega) (by omega) (by omega) rfl
             | exact OpR.indexArrE rfl rfl (by omega) (by omega) rfl)
        | (apply OpR.kIx; exact OpR.strIndex (by with_reducible assumption) (by with_reducible assumption) rfl rfl rfl)
        | (apply OpR.kBin
           first
             | (apply OpR.kRem; exact OpR.remP rfl rfl rfl (by omega) (by omega))
             | (apply OpR.kQuo; exact OpR.quoP rfl rfl rfl (by omega) (by omega) (by simp [IntKind.max, IntKind.signed, IntKind.bits]; omega))
             | (apply OpR.kShr; exact OpR.shr rfl rfl rfl rfl rfl (by decide))
             | (apply OpR.kShl; exact OpR.shlU rfl rfl rfl rfl (by decide))
             | (apply OpR.kAnd
                first
                  | exact OpR.and32 (by omega) (by omega) rfl rfl rfl
                  | exact OpR.and0 (by omega) rfl rfl rfl
                  | exact OpR.and1 (by omega) (by omega) (by omega) rfl rfl rfl)
             | exact OpR.cmp rfl rfl rfl rfl
             | exact OpR.ar64 rfl rfl rfl rfl (by omega) (by omega)
             | exact OpR.arUI rfl rfl rfl rfl (by omega) (by omega)
             | exact OpR.arU rfl rfl rfl rfl
             | exact OpR.ar8 rfl rfl rfl rfl (by omega) (by omega)
             | exact OpR.eqlNil rfl rfl (by omega) rfl
             | exact OpR.neqNil rfl rfl (by omega) rfl
             | exact OpR.eqlNilV rfl rfl
             | exact OpR.eqlB rfl rfl rfl
             | exact OpR.neqB rfl rfl rfl
             | exact OpR.eql2 rfl rfl rfl
             | exact OpR.neq2 rfl rfl rfl
             | exact OpR.neqNilV rfl rfl)
        | (apply OpR.kCall
           first
             | exact OpR.len rfl rfl
             | exact OpR.lenNil rfl rfl
             | exact OpR.strLen rfl rfl
             | exact OpR.append rfl rfl rfl rfl rfl rfl (by omega) rfl rfl rfl
             | exact OpR.appendNil rfl rfl rfl rfl (by omega) rfl rfl rfl
             | exact OpR.appendE rfl rfl rfl rfl rfl
             | exact OpR.min2 rfl rfl rfl
             | exact OpR.max2 rfl rfl rfl)
        | (apply OpR.kStore
           first
             | exact OpR.storeP rfl rfl rfl rfl rfl rfl
             | exact OpR.storeE rfl rfl rfl rfl (by with_reducible assumption) rfl rfl rfl rfl rfl
             | exact OpR.storeG rfl rfl rfl rfl (by omega) rfl rfl rfl rfl rfl)
        | (apply OpR.kMF
           first
             | exact OpR.makeFunc0 rfl
             | exact OpR.makeFunc1 rfl rfl
             | exact OpR.makeFunc2 rfl rfl rfl)
        | (apply OpR.kPick
           first
             | exact OpR.pickT rfl DecT rfl rfl
             | exact OpR.pickF rfl DecF rfl rfl
             | exact OpR.pickT rfl BoT rfl rfl
             | exact OpR.pickF rfl BoF rfl rfl)
        | (apply OpR.kFld
           first
             | exact OpR.field1 rfl rfl rfl
             | exact OpR.fieldA rfl rfl)
        | (apply OpR.kExt; exact OpR.extract rfl rfl rfl)
        | (apply OpR.kUn
           first
             | exact OpR.not rfl rfl
             | exact OpR.neg64 rfl rfl (by omega) (by omega)
             | exact OpR.xorI (by omega) (by omega) rfl rfl
             | exact OpR.xorU (by omega) (by omega) rfl rfl)
        | (apply OpR.kBox; exact OpR.box rfl rfl rfl rfl)
        | (apply OpR.kConv
           first
             | exact OpR.conv64 rfl rfl (by omega) (by omega)
             | exact OpR.convUI rfl rfl (by omega) (by omega)
             | exact OpR.conv8 rfl rfl (by omega) (by omega)
             | exact OpR.conv16 rfl rfl (by omega) (by omega)
             | exact OpR.convStr rfl rfl (by first | rfl | (simp; omega)) rfl
             | exact OpR.convU rfl rfl)
        | (apply OpR.kSl
           first
             | exact OpR.sliceRo rfl rfl (.some rfl (by omega)) .none rfl (by omega) (by omega) (by first | rfl | omega) rfl rfl
             | exact OpR.sliceRo rfl rfl .none (.some rfl (by omega)) rfl (by omega) (by omega) (by first | rfl | omega) rfl rfl
             | exact OpR.sliceRo rfl rfl (.some rfl (by omega)) (.some rfl (by omega)) rfl (by omega) (by omega) (by first | rfl | omega) rfl rfl
             | exact OpR.slice rfl rfl (.some rfl (by omega)) .none rfl (by omega) (by omega) (by first | rfl | omega) rfl rfl
             | exact OpR.slice rfl rfl .none (.some rfl (by omega)) rfl (by omega) (by omega) (by first | rfl | omega) rfl rfl
             | exact OpR.slice rfl rfl (.some rfl (by omega)) (.some rfl (by omega)) rfl (by omega) (by omega) (by first | rfl | omega) rfl rfl
             | exact OpR.sliceArrE rfl rfl rfl rfl (by omega) (by omega) (by omega) rfl rfl
             | exact OpR.strSlice rfl (.some rfl (by omega)) .none (by omega) (by omega) rfl
             | exact OpR.strSlice rfl (.some rfl (by omega)) (.some rfl (by omega)) (by omega) (by omega) rfl
             | exact OpR.slice rfl rfl .none .none rfl (by omega) (by omega) rfl rfl rfl)
        | (apply OpR.kBld; exact OpR.build rfl rfl rfl)
        | (apply OpR.kBS; exact OpR.buildSlice rfl rfl rfl rfl rfl rfl rfl rfl rfl)
        | (apply OpR.kNC
           first
             | exact OpR.nilCheckP rfl rfl
             | exact OpR.nilCheckF rfl rfl)
        | (apply OpR.kAl; exact OpR.alloc rfl rfl rfl)
        | (apply OpR.kMS; exact OpR.make' rfl rfl (by omega) rfl rfl rfl)) : OpR P nt s o d s1 := h

/-- The rest of a region; whether it draws its order. -/
structure RX (P : Program) (nt : Nat) (fx : List Nat) (k : List It) (K : Exit → St → Prop) (draw : Bool) (l : List Oper) (rest : List Oper) (done : List Sh) (s : St) : Prop where
  run : ∃ ds s', Ex P nt l.toArray rest s ds s' ∧ (draw = true → chkGo 0 l (done ++ ds.map SD.sh) (ancsGo [] l) = true) ∧ TL P nt fx k s' K
theorem TL.pl {l : List Oper} {id : Nat} {s : St} (h : RX P nt fx k K false l l [] s) : TL P nt fx (.code (.region id l.toArray false) :: k) s K := by
  obtain ⟨ds, s', h1, _, h2⟩ := h.run
  exact TL.plain h1 h2
theorem TL.dr {l : List Oper} {id : Nat} {s : St} (h : RX P nt fx k K true l l [] s) (hm : P.follows .mixedOrders = true) : TL P nt fx (.code (.region id l.toArray true) :: k) s K := by
  obtain ⟨ds, s', h1, h2, h3⟩ := h.run
  exact TL.draw hm h1 (h2 rfl) h3
section
variable {draw : Bool} {l : List Oper} {o : Oper} {rest : List Oper} {s s1 : St} {d : SD} {done : List Sh} {j g t : Nat} {b w : Bool}
theorem RX.nil (h : TL P nt fx k s K) (hc : (!draw || chkGo 0 l done (ancsGo [] l)) = true) : RX P nt fx k K draw l [] done s := ⟨⟨[], s, .nil, fun hd => by subst hd; simpa using hc, h⟩⟩
theorem RX.x (h : OpR P nt s o d s1) (hg : o.guard = none) (k' : RX P nt fx k K draw l rest (done ++ [d.sh]) s1) : RX P nt fx k K draw l (o :: rest) done s := by
  obtain ⟨ds, s', h1, h2, h3⟩ := k'.run
  exact ⟨⟨d :: ds, s', .step hg h h1, fun hd => by simpa using h2 hd, h3⟩⟩
theorem RX.y (hg : o.guard = some (j, w)) (hs : (l.toArray[j]?).bind (·.dst) = some g) (hb : getL s.sl g = some (.v (.bool b))) (hw : b = w) (h : OpR P nt s o d s1) (k' : RX P nt fx k K draw l rest (done ++ [⟨d.dst, g :: d.ins.map (·.1), d.hin.map (·.1) ++ d.fr, d.wr.map (·.1)⟩]) s1) : RX P nt fx k K draw l (o :: rest) done s := by
  obtain ⟨ds, s', h1, h2, h3⟩ := k'.run
  exact ⟨⟨_, s', .yes hg hs hb hw h h1, fun hd => by simpa [SD.sh] using h2 hd, h3⟩⟩
theorem RX.n (hg : o.guard = some (j, w)) (hs : (l.toArray[j]?).bind (·.dst) = some g) (hb : getL sl g = some (.v (.bool b))) (hw : b = !w) (ht : o.dst = some t) (hn : Nat.blt t nt = true) (k' : RX P nt fx k K draw l rest (done ++ [⟨some t, [g], [], []⟩]) ⟨(t, .v undef) :: sl, hp⟩) : RX P nt fx k K draw l (o :: rest) done ⟨sl, hp⟩ := by
  obtain ⟨ds, s', h1, h2, h3⟩ := k'.run
  exact ⟨⟨_, s', .no hg hs hb hw ht hn h1, fun hd => by simpa [SD.sh] using h2 hd, h3⟩⟩
theorem RX.nU (hg : o.guard = some (j, w)) (hs : (l.toArray[j]?).bind (·.dst) = some g) (hb : getL sl g = some (.v undef)) (ht : o.dst = some t) (hn : Nat.blt t nt = true) (k' : RX P nt fx k K draw l rest (done ++ [⟨some t, [g], [], []⟩]) ⟨(t, .v undef) :: sl, hp⟩) : RX P nt fx k K draw l (o :: rest) done ⟨sl, hp⟩ := by
  obtain ⟨ds, s', h1, h2, h3⟩ := k'.run
  exact ⟨⟨_, s', .noU hg hs hb ht hn h1, fun hd => by simpa [SD.sh] using h2 hd, h3⟩⟩
theorem RX.nS (hg : o.guard = some (j, w)) (hs : (l.toArray[j]?).bind (·.dst) = some g) (hb : getL s.sl g = some (.v (.bool b))) (hw : b = !w) (ht : o.dst = none) (k' : RX P nt fx k K draw l rest (done ++ [⟨none, [g], [], []⟩]) s) : RX P nt fx k K draw l (o :: rest) done s := by
  obtain ⟨ds, s', h1, h2, h3⟩ := k'.run
  exact ⟨⟨_, s', .noS hg hs hb hw ht h1, fun hd => by simpa [SD.sh] using h2 hd, h3⟩⟩
theorem RX.kN {t : Option Nat} {op : Op} {ty : TypeId} {pos : String} {af : Array Edge} (h : RX P nt fx k K draw l (⟨t, op, ty, pos, af, none⟩ :: rest) done s) : RX P nt fx k K draw l (⟨t, op, ty, pos, af, none⟩ :: rest) done s := h
theorem RX.kG {t : Option Nat} {op : Op} {ty : TypeId} {pos : String} {af : Array Edge} {gw : Nat × Bool} (h : RX P nt fx k K draw l (⟨t, op, ty, pos, af, some gw⟩ :: rest) done s) : RX P nt fx k K draw l (⟨t, op, ty, pos, af, some gw⟩ :: rest) done s := h
theorem TL.kC {c : Operand} {x y : Code} (h : TL P nt fx (.code (.cond c x y) :: k) s K) : TL P nt fx (.code (.cond c x y) :: k) s K := h
end

/-! ### At the end -/
theorem ChLe.own {α : Type} {e : TypeId} {E : Enc α} {l l' : List α} (h : l' = l) : ChLe (.own e E l') (.own e E l) := by subst h; exact .refl _
theorem ChLe.mt {α : Type} {E : Enc α} {l l' : List α} (h : l' = l) : ChLe (.mt E l') (.mt E l) := by subst h; exact .refl _
section
variable {s : St} {pre post : List (Nat × Chunk)} {res : SV} {t : Nat}
theorem retK.v {u u' : Value} (e : u' = u) (h : getL s.sl t = some (.v u') := by rfl) (ck : (nodupB [] && fxB fx (fun i => i) s.hp && retB fx pre [] (.v u)) = true := by kernel_rfl) : retK P fx #[.tmp t] pre [] (.v u) .ret s := by
  subst e
  exact ⟨fun i => i, .one (.tmp h), trivial, ck⟩
theorem retK.one {X : SV} (ρ : Nat → Nat) (e : X = res.ren ρ) (hp : LeH ρ s.hp post) (h : getL s.sl t = some X := by rfl) (ck : (nodupB (post.map fun p => ρ p.1) && fxB fx ρ s.hp && retB fx pre post res) = true := by kernel_rfl) : retK P fx #[.tmp t] pre post res .ret s :=
  ⟨ρ, .one (.tmp (by rw [← e]; exact h)), hp, ck⟩
theorem retK.two {u : Nat} {X Y A B : SV} (ρ : Nat → Nat) (e : X = A.ren ρ) (e' : Y = B.ren ρ) (hp : LeH ρ s.hp post) (h : getL s.sl t = some X := by rfl) (h' : getL s.sl u = some Y := by rfl) (ck : (nodupB (post.map fun p => ρ p.1) && fxB fx ρ s.hp && retB fx pre post (.tup [A, B])) = true := by kernel_rfl) : retK P fx #[.tmp t, .tmp u] pre post (.tup [A, B]) .ret s :=
  ⟨ρ, by rw [show (SV.tup [A, B]).ren ρ = .tup [A.ren ρ, B.ren ρ] from rfl, ← e, ← e']; exact .two (.tmp h) (.tmp h'), hp, ck⟩
theorem retK.none (ρ : Nat → Nat) (hp : LeH ρ s.hp post) (ck : (nodupB (post.map fun p => ρ p.1) && fxB fx ρ s.hp && retB fx pre post (.tup [])) = true := by kernel_rfl) : retK P fx #[] pre post (.tup []) .ret s :=
  ⟨ρ, .none, hp, ck⟩
end
theorem vInt {k : IntKind} {a b : Int} (h : a = b) : Value.int k a = .int k b := by rw [h]
theorem svI {k : IntKind} {a b : Int} (h : a = b) : SV.v (.int k a) = .v (.int k b) := by rw [h]
theorem svB {a b : Bool} (h : a = b) : SV.v (.bool a) = .v (.bool b) := by rw [h]
theorem vBool {a b : Bool} (h : a = b) : Value.bool a = .bool b := by rw [h]
theorem dT {p : Prop} [Decidable p] (h : p) : decide p = true := decide_eq_true h
theorem dF {p : Prop} [Decidable p] (h : ¬ p) : decide p = false := decide_eq_false h

/-! ### Calls -/
def hinOf (σ : Nat → Nat) (hp pre : List (Nat × Chunk)) : List (Nat × Chunk) := pre.map fun p => (σ p.1, (getL hp (σ p.1)).getD .dead)
theorem LeH.match_ {σ : Nat → Nat} {hp : List (Nat × Chunk)} : ∀ {pre : List (Nat × Chunk)}, LeH σ hp pre → Match σ hp pre (hinOf σ hp pre)
  | [], _ => .nil
  | (i, c) :: l, h => by
    obtain ⟨⟨c', h1, h2⟩, h3⟩ := h
    have : hinOf σ hp ((i, c) :: l) = (σ i, c') :: hinOf σ hp l := by simp [hinOf, h1]
    rw [this]
    exact .cons h1 h2 h3.match_
theorem LeA {σ : Nat → Nat} {hp pre : List (Nat × Chunk)} (h : LeH σ hp pre := by repeat (first | exact trivial | refine ⟨⟨_, rfl, .refl _⟩, ?_⟩ | refine ⟨⟨_, rfl, .om⟩, ?_⟩ | refine ⟨⟨_, rfl, .ro⟩, ?_⟩)) : LeH σ hp pre := h
section
variable {t : Nat} {ty : TypeId} {pos : String} {af : Array Edge} {g : Option (Nat × Bool)} {fo : Operand} {f : FuncId} {caps : List SV} {xs : List Operand} {ats : Array TypeId} {Xs args : List SV} {pre post H : List (Nat × Chunk)} {res R : SV} {u : Value}
/-- A call that gives a plain value, and leaves all as it was. -/
theorem OpR.callV (hspec : Spec P f args pre (.v u) []) (σ : Nat → Nat) (hm : LeH σ hp pre) (hfo : evS sl fo = some (.fn f caps) := by rfl) (hxs : evL sl xs = some Xs := by rfl) (hargs : renL σ args = Xs ++ caps := by rfl)
    (hck : callB σ pre [] (.v u) = true := by kernel_rfl) (ht : Nat.blt t nt = true := by rfl) :
    OpR P nt ⟨sl, hp⟩ ⟨some t, .call { callee := .value fo, args := xs.toArray, argTypes := ats }, ty, pos, af, g⟩ ⟨insOf fo (.fn f caps) ++ insL xs Xs, hinOf σ hp pre, [], some t, .v u, []⟩ ⟨(t, .v u) :: sl, hp⟩ :=
  call_gen hspec σ hfo hxs hargs rfl rfl hm.match_ hck rfl ht
/-- A call, whatever it gives. -/
theorem OpR.callP (hspec : Spec P f args pre res post) (σ : Nat → Nat) (hm : LeH σ hp pre) (R : SV) (H : List (Nat × Chunk)) (hfo : evS sl fo = some (.fn f caps) := by rfl) (hxs : evL sl xs = some Xs := by rfl) (hargs : renL σ args = Xs ++ caps := by rfl) (hR : res.ren σ = R := by rfl) (hH : renH σ post = H := by rfl)
    (hck : callB σ pre post res = true := by kernel_rfl) (hfr : (newIds pre post).all (fun i => (getL hp (σ i)).isNone) = true := by kernel_rfl) (ht : Nat.blt t nt = true := by rfl) :
    OpR P nt ⟨sl, hp⟩ ⟨some t, .call { callee := .value fo, args := xs.toArray, argTypes := ats }, ty, pos, af, g⟩ ⟨insOf fo (.fn f caps) ++ insL xs Xs, hinOf σ hp pre, (newIds pre post).map σ, some t, R, H⟩ ⟨(t, R) :: sl, H ++ hp⟩ :=
  call_gen hspec σ hfo hxs hargs hR hH hm.match_ hck hfr ht
/-- A call that gives a value without names, and leaves all as it was. -/
theorem OpR.callA (hspec : Spec P f args pre res []) (σ : Nat → Nat) (hm : LeH σ hp pre) (hfo : evS sl fo = some (.fn f caps) := by rfl) (hxs : evL sl xs = some Xs := by rfl) (hargs : renL σ args = Xs ++ caps := by rfl) (hR : res.ren σ = res := by rfl)
    (hck : callB σ pre [] res = true := by kernel_rfl) (ht : Nat.blt t nt = true := by rfl) :
    OpR P nt ⟨sl, hp⟩ ⟨some t, .call { callee := .value fo, args := xs.toArray, argTypes := ats }, ty, pos, af, g⟩ ⟨insOf fo (.fn f caps) ++ insL xs Xs, hinOf σ hp pre, [], some t, res, []⟩ ⟨(t, res) :: sl, hp⟩ :=
  call_gen hspec σ hfo hxs hargs hR rfl hm.match_ hck rfl ht
/-- A call that gives nothing. -/
theorem OpR.callN (hspec : Spec P f args pre res post) (σ : Nat → Nat) (hm : LeH σ hp pre) (H : List (Nat × Chunk)) (hfo : evS sl fo = some (.fn f caps) := by rfl) (hxs : evL sl xs = some Xs := by rfl) (hargs : renL σ args = Xs ++ caps := by rfl) (hH : renH σ post = H := by rfl)
    (hck : callB σ pre post res = true := by kernel_rfl) (hfr : (newIds pre post).all (fun i => (getL hp (σ i)).isNone) = true := by kernel_rfl) :
    OpR P nt ⟨sl, hp⟩ ⟨none, .call { callee := .value fo, args := xs.toArray, argTypes := ats }, ty, pos, af, g⟩ ⟨insOf fo (.fn f caps) ++ insL xs Xs, hinOf σ hp pre, (newIds pre post).map σ, none, res.ren σ, H⟩ ⟨sl, H ++ hp⟩ :=
  call_gen hspec σ hfo hxs hargs rfl hH hm.match_ hck hfr rfl
end
theorem retK.vp {s : St} {pre post : List (Nat × Chunk)} {t : Nat} {u u' : Value} (ρ : Nat → Nat) (e : u' = u) (hp : LeH ρ s.hp post) (h : getL s.sl t = some (.v u') := by rfl) (ck : (nodupB (post.map fun p => ρ p.1) && fxB fx ρ s.hp && retB fx pre post (.v u)) = true := by kernel_rfl) : retK P fx #[.tmp t] pre post (.v u) .ret s := by
  subst e
  exact ⟨ρ, .one (.tmp h), hp, ck⟩

theorem LeSA {ρ : Nat → Nat} {sl' sl : List (Nat × SV)} (h : LeS ρ sl' sl := by repeat (first | exact trivial | refine ⟨rfl, ?_⟩)) : LeS ρ sl' sl := h
/-- Weaker, names as they are. -/
theorem LeI {s' s : St} (h1 : LeS (fun i => i) s'.sl s.sl := by exact LeSA) (h2 : LeH (fun i => i) s'.hp s.hp := by exact LeA) (ck : (closedB s && nodupB (s.hp.map fun p => p.1) && fxB fx (fun i => i) s.hp) = true := by kernel_rfl) : Le fx (fun i => i) s' s := ⟨h1, h2, ck⟩
theorem LeR {s' s : St} (ρ : Nat → Nat) (h1 : LeS ρ s'.sl s.sl := by exact LeSA) (h2 : LeH ρ s'.hp s.hp := by exact LeA) (ck : (closedB s && nodupB (s.hp.map fun p => ρ p.1) && fxB fx ρ s.hp) = true := by kernel_rfl) : Le fx ρ s' s := ⟨h1, h2, ck⟩
/-- A return of a struct that lies in memory. -/
theorem retK.ag {s : St} {pre post : List (Nat × Chunk)} {t id n : Nat} {T tt : TypeId} {cs : List SV} {res : SV} [hT : TyShape P T true n] (ρ : Nat → Nat) (e : SV.agg cs = res.ren ρ) (hp : LeH ρ s.hp post) (h : getL s.sl t = some (.p id 0) := by rfl) (hc : getL s.hp id = some (.cells tt cs) := by rfl) (hn : Nat.beq cs.length n = true := by rfl) (ck : (nodupB (post.map fun p => ρ p.1) && fxB fx ρ s.hp && retB fx pre post res) = true := by kernel_rfl) : retK P fx #[.cell t T] pre post res .ret s :=
  ⟨ρ, .one (by rw [← e]; exact .agg h hc hn), hp, ck⟩
end
set_option allowUnsafeReducibility true in
attribute [irreducible] loopK
end Go.Proofs.Ytiboffhdabeiiaa
