/-
  The symbolic state: numbers of 64 bits without a sign, shifts, bits, conversions; calls of bodies that the model stands in for; pieces of rows. Plain lemmas over any program.
-/
import Derived.Test.YtiboffhdabeiiaaSxK
import Derived.Laws.BitsAllLaws
import Derived.Laws.BitsLemmas
import Derived.Laws.Externs
namespace Go.Proofs.Ytiboffhdabeiiaa
open Go Go.RowKit

theorem wrapU64 (n : Int) : IntKind.u64.wrap n = n % 18446744073709551616 := by simp [IntKind.wrap, IntKind.bits, IntKind.signed]
theorem wrapI64 (n : Int) : IntKind.i64.wrap n = (n + 9223372036854775808) % 18446744073709551616 - 9223372036854775808 := by
  simp [IntKind.wrap, IntKind.signed, IntKind.bits]
  split <;> omega
theorem wrapU8 (n : Int) : IntKind.u8.wrap n = n % 256 := by simp [IntKind.wrap, IntKind.bits, IntKind.signed]
theorem wrapU16 (n : Int) : IntKind.u16.wrap n = n % 65536 := by simp [IntKind.wrap, IntKind.bits, IntKind.signed]
theorem wrapU32 (n : Int) : IntKind.u32.wrap n = n % 4294967296 := by simp [IntKind.wrap, IntKind.bits, IntKind.signed]
theorem wrapI32 (n : Int) : IntKind.i32.wrap n = (n + 2147483648) % 4294967296 - 2147483648 := by
  simp [IntKind.wrap, IntKind.signed, IntKind.bits]
  split <;> omega
theorem wrapI8 (n : Int) : IntKind.i8.wrap n = (n + 128) % 256 - 128 := by
  simp [IntKind.wrap, IntKind.signed, IntKind.bits]
  split <;> omega

section
variable {P : Program} {nt : Nat} {o : Oper} {sl : List (Nat × SV)} {hp : List (Nat × Chunk)} {t : Nat}
variable {ty : TypeId} {pos : String} {af : Array Edge} {g : Option (Nat × Bool)}

section
variable {op : BinOp} {T T' : TypeId} {x y : Operand} {a b v : Int} (hv : arVal op a b = some v) 
include hv
theorem OpR.arU (hx : evS sl x = some (.v (.int .u64 a))) (hy : evS sl y = some (.v (.int .u64 b))) (ht : Nat.blt t nt = true) :
    OpR P nt ⟨sl, hp⟩ ⟨some t, .binOp op T x y T', ty, pos, af, g⟩ ⟨insOf x (.v (.int .u64 a)) ++ insOf y (.v (.int .u64 b)), [], [], some t, .v (.int .u64 (v % 18446744073709551616)), []⟩ ⟨(t, .v (.int .u64 (v % 18446744073709551616))) :: sl, hp⟩ := by
  cases op <;> simp only [arVal, Option.some.injEq] at hv <;> first
    | (subst hv; first | exact OpR.addK hx hy ht (wrapU64 _) | exact OpR.subK hx hy ht (wrapU64 _) | exact OpR.mulK hx hy ht (wrapU64 _))
    | cases hv
theorem OpR.arUI (hx : evS sl x = some (.v (.int .u64 a))) (hy : evS sl y = some (.v (.int .u64 b))) (ht : Nat.blt t nt = true) (h1 : 0 ≤ v) (h2 : v < 18446744073709551616) :
    OpR P nt ⟨sl, hp⟩ ⟨some t, .binOp op T x y T', ty, pos, af, g⟩ ⟨insOf x (.v (.int .u64 a)) ++ insOf y (.v (.int .u64 b)), [], [], some t, .v (.int .u64 v), []⟩ ⟨(t, .v (.int .u64 v)) :: sl, hp⟩ := by
  have h := OpR.arU (P := P) (nt := nt) (hp := hp) (T := T) (T' := T') (ty := ty) (pos := pos) (af := af) (g := g) hv hx hy ht
  rwa [Int.emod_eq_of_lt h1 h2] at h
theorem OpR.ar8 (hx : evS sl x = some (.v (.int .u8 a))) (hy : evS sl y = some (.v (.int .u8 b))) (ht : Nat.blt t nt = true) (h1 : 0 ≤ v) (h2 : v < 256) :
    OpR P nt ⟨sl, hp⟩ ⟨some t, .binOp op T x y T', ty, pos, af, g⟩ ⟨insOf x (.v (.int .u8 a)) ++ insOf y (.v (.int .u8 b)), [], [], some t, .v (.int .u8 v), []⟩ ⟨(t, .v (.int .u8 v)) :: sl, hp⟩ := by
  have e : IntKind.u8.wrap v = v := by rw [wrapU8]; omega
  cases op <;> simp only [arVal, Option.some.injEq] at hv <;> first
    | (subst hv; first | exact OpR.addK hx hy ht e | exact OpR.subK hx hy ht e | exact OpR.mulK hx hy ht e)
    | cases hv
/-- It may go round. -/
theorem OpR.arW (hx : evS sl x = some (.v (.int .i64 a))) (hy : evS sl y = some (.v (.int .i64 b))) (ht : Nat.blt t nt = true) :
    OpR P nt ⟨sl, hp⟩ ⟨some t, .binOp op T x y T', ty, pos, af, g⟩ ⟨insOf x (.v (.int .i64 a)) ++ insOf y (.v (.int .i64 b)), [], [], some t, .v (.int .i64 ((v + 9223372036854775808) % 18446744073709551616 - 9223372036854775808)), []⟩ ⟨(t, .v (.int .i64 ((v + 9223372036854775808) % 18446744073709551616 - 9223372036854775808))) :: sl, hp⟩ := by
  cases op <;> simp only [arVal, Option.some.injEq] at hv <;> first
    | (subst hv; first | exact OpR.addK hx hy ht (wrapI64 _) | exact OpR.subK hx hy ht (wrapI64 _) | exact OpR.mulK hx hy ht (wrapI64 _))
    | cases hv
end

/-! ### Shifts -/
def pw2 : Nat → Option Int
  | 63 => some 9223372036854775808
  | 62 => some 4611686018427387904
  | 60 => some 1152921504606846976
  | 40 => some 1099511627776
  | 32 => some 4294967296
  | 16 => some 65536
  | 8 => some 256
  | 4 => some 16
  | 1 => some 2
  | _ => none
theorem pw2_spec {n : Nat} {p : Int} (h : pw2 n = some p) : p = 2 ^ n ∧ n ≤ 63 := by
  unfold pw2 at h
  split at h <;> first | (injection h with h; subst h; decide) | cases h
section
variable {T T' : TypeId} {x y : Operand} {k ky : IntKind} {a : Int} {n : Nat} {p : Int}
theorem run_shr (w : World) (h64 : k.bits = 64) (hn : n < 64) : (binOp .shr T (.int k a) (.int ky (n : Int))).run P w = .ok (.int k (a / 2 ^ n)) w := by
  have : ¬ ((n : Int) < 0) := by omega
  simp only [binOp, Op.shift, this, if_false, h64, Int.toNat_natCast, Nat.min_eq_left (by omega : n ≤ 64)]
  rw [Int.fdiv_eq_ediv_of_nonneg _ (by exact Int.le_of_lt (Int.pow_pos (by decide)))]
  rfl
theorem run_shl (w : World) (h64 : k.bits = 64) (hn : n < 64) : (binOp .shl T (.int k a) (.int ky (n : Int))).run P w = .ok (.int k (k.wrap (a * 2 ^ n))) w := by
  have : ¬ ((n : Int) < 0) := by omega
  simp only [binOp, Op.shift, this, if_false, h64, Int.toNat_natCast, Nat.min_eq_left (by omega : n ≤ 64)]
  rfl
theorem OpR.shrN (hk : k.bits = 64) (hx : evS sl x = some (.v (.int k a))) (hy : evS sl y = some (.v (.int ky (n : Int)))) (ht : Nat.blt t nt = true) (hn : n < 64) :
    OpR P nt ⟨sl, hp⟩ ⟨some t, .binOp .shr T x y T', ty, pos, af, g⟩ ⟨insOf x (.v (.int k a)) ++ insOf y (.v (.int ky (n : Int))), [], [], some t, .v (.int k (a / 2 ^ n)), []⟩ ⟨(t, .v (.int k (a / 2 ^ n))) :: sl, hp⟩ :=
  OpR.binv hx hy ht fun w => by
    have h := run_shr (P := P) (T := T) (ky := ky) (a := a) w hk hn
    simp only [Sem.run_bind, eqGuard, Sem.run_pure, Result.andThen_ok]
    exact h
theorem OpR.shr {s : Int} (hk : k.bits = 64) (hx : evS sl x = some (.v (.int k a))) (hy : evS sl y = some (.v (.int ky s))) (ht : Nat.blt t nt = true) (hp2 : pw2 s.toNat = some p) (hs : 0 ≤ s) :
    OpR P nt ⟨sl, hp⟩ ⟨some t, .binOp .shr T x y T', ty, pos, af, g⟩ ⟨insOf x (.v (.int k a)) ++ insOf y (.v (.int ky s)), [], [], some t, .v (.int k (a / p)), []⟩ ⟨(t, .v (.int k (a / p))) :: sl, hp⟩ := by
  obtain ⟨n, rfl⟩ : ∃ n : Nat, s = (n : Int) := ⟨s.toNat, by omega⟩
  obtain ⟨rfl, hn⟩ := pw2_spec hp2
  exact OpR.shrN hk hx hy ht (by simpa using (by omega : n < 64))
theorem OpR.shlU {s : Int} (hx : evS sl x = some (.v (.int .u64 a))) (hy : evS sl y = some (.v (.int ky s))) (ht : Nat.blt t nt = true) (hp2 : pw2 s.toNat = some p) (hs : 0 ≤ s) :
    OpR P nt ⟨sl, hp⟩ ⟨some t, .binOp .shl T x y T', ty, pos, af, g⟩ ⟨insOf x (.v (.int .u64 a)) ++ insOf y (.v (.int ky s)), [], [], some t, .v (.int .u64 (a * p % 18446744073709551616)), []⟩ ⟨(t, .v (.int .u64 (a * p % 18446744073709551616))) :: sl, hp⟩ := by
  obtain ⟨n, rfl⟩ : ∃ n : Nat, s = (n : Int) := ⟨s.toNat, by omega⟩
  obtain ⟨rfl, hn⟩ := pw2_spec hp2
  refine OpR.binv hx hy ht fun w => ?_
  have h := run_shl (P := P) (T := T) (ky := ky) (k := .u64) (a := a) w rfl (n := n) (by simp at hn; omega)
  rw [wrapU64] at h
  simp only [Sem.run_bind, eqGuard, Sem.run_pure, Result.andThen_ok]
  simpa using h
theorem OpR.shlI {s : Int} (hx : evS sl x = some (.v (.int .i64 a))) (hy : evS sl y = some (.v (.int ky s))) (ht : Nat.blt t nt = true) (hp2 : pw2 s.toNat = some p) (hs : 0 ≤ s) (h1 : -9223372036854775808 ≤ a * p) (h2 : a * p ≤ 9223372036854775807) :
    OpR P nt ⟨sl, hp⟩ ⟨some t, .binOp .shl T x y T', ty, pos, af, g⟩ ⟨insOf x (.v (.int .i64 a)) ++ insOf y (.v (.int ky s)), [], [], some t, .v (.int .i64 (a * p)), []⟩ ⟨(t, .v (.int .i64 (a * p))) :: sl, hp⟩ := by
  obtain ⟨n, rfl⟩ : ∃ n : Nat, s = (n : Int) := ⟨s.toNat, by omega⟩
  obtain ⟨rfl, hn⟩ := pw2_spec hp2
  refine OpR.binv hx hy ht fun w => ?_
  have h := run_shl (P := P) (T := T) (ky := ky) (k := .i64) (a := a) w rfl (n := n) (by simp at hn; omega)
  rw [wrap64_in (by simpa using h1) (by simpa using h2)] at h
  simp only [Sem.run_bind, eqGuard, Sem.run_pure, Result.andThen_ok]
  simpa using h
end

/-! ### Bits -/
section
variable {T T' : TypeId} {x y : Operand} {a b : Int}
theorem toNat64 (n : Int) : (((BitVec.ofInt 64 n).toNat : Nat) : Int) = n % 18446744073709551616 := by
  rw [BitVec.toNat_ofInt]
  have : ((2 ^ 64 : Nat) : Int) = 18446744073709551616 := by decide
  rw [this]
  omega
theorem toNat64' {n : Nat} (h : n < 18446744073709551616) : (BitVec.ofInt 64 (n : Int)).toNat = n := by
  have := toNat64 (n : Int)
  omega
theorem and0_u64 (b : Int) : Op.intBits .and .u64 0 b = pure (.int .u64 0) := by
  show pure (Value.int .u64 (IntKind.u64.wrap (((BitVec.ofInt 64 0 &&& BitVec.ofInt 64 b).toNat : Nat) : Int))) = _
  rw [show BitVec.ofInt 64 0 = 0#64 by decide, BitVec.zero_and]
  rfl
theorem and1_u64 (b : Int) (h1 : 0 ≤ b) (h2 : b < 18446744073709551616) : Op.intBits .and .u64 18446744073709551615 b = pure (.int .u64 b) := by
  have e : BitVec.ofInt 64 18446744073709551615 = BitVec.allOnes 64 := by decide
  show pure (Value.int .u64 (IntKind.u64.wrap (((BitVec.ofInt 64 18446744073709551615 &&& BitVec.ofInt 64 b).toNat : Nat) : Int))) = _
  rw [e, BitVec.allOnes_and, toNat64, wrapU64]
  congr 2
  omega
theorem and32_u64 (a : Int) (h1 : 0 ≤ a) (h2 : a < 18446744073709551616) : Op.intBits .and .u64 a 4294967295 = pure (.int .u64 (a % 4294967296)) := by
  obtain ⟨n, rfl⟩ : ∃ n : Nat, a = (n : Int) := ⟨a.toNat, by omega⟩
  show pure (Value.int .u64 (IntKind.u64.wrap (((BitVec.ofInt 64 (n : Int) &&& BitVec.ofInt 64 4294967295).toNat : Nat) : Int))) = _
  have e2 : (BitVec.ofInt 64 4294967295).toNat = 2 ^ 32 - 1 := by decide
  rw [BitVec.toNat_and, toNat64' (by omega), e2, Nat.and_two_pow_sub_one_eq_mod, wrapU64]
  congr 2
  omega
theorem or_u64 (i : Nat) (a b : Int) (ha : a % 2 ^ i = 0) (h0 : 0 ≤ a) (hb : 0 ≤ b) (hb2 : b < 2 ^ i) (h1 : a + b < 18446744073709551616) : Op.intBits .or .u64 a b = pure (.int .u64 (a + b)) := by
  obtain ⟨n, rfl⟩ : ∃ n : Nat, a = (n : Int) := ⟨a.toNat, by omega⟩
  obtain ⟨m, rfl⟩ : ∃ n : Nat, b = (n : Int) := ⟨b.toNat, by omega⟩
  show pure (Value.int .u64 (IntKind.u64.wrap (((BitVec.ofInt 64 (n : Int) ||| BitVec.ofInt 64 (m : Int)).toNat : Nat) : Int))) = _
  have hm : m < 2 ^ i := by exact_mod_cast hb2
  have hn : n % 2 ^ i = 0 := by exact_mod_cast ha
  obtain ⟨q, rfl⟩ : ∃ q, n = 2 ^ i * q := ⟨n / 2 ^ i, by have := Nat.div_add_mod n (2 ^ i); omega⟩
  rw [BitVec.toNat_or, toNat64' (by omega), toNat64' (by omega), ← Nat.two_pow_add_eq_or_of_lt hm, wrapU64]
  congr 2
  omega
theorem OpR.and0 (ha : a = 0) (hx : evS sl x = some (.v (.int .u64 a))) (hy : evS sl y = some (.v (.int .u64 b))) (ht : Nat.blt t nt = true) :
    OpR P nt ⟨sl, hp⟩ ⟨some t, .binOp .and T x y T', ty, pos, af, g⟩ ⟨insOf x (.v (.int .u64 a)) ++ insOf y (.v (.int .u64 b)), [], [], some t, .v (.int .u64 0), []⟩ ⟨(t, .v (.int .u64 0)) :: sl, hp⟩ := by
  subst ha
  exact OpR.binv hx hy ht fun w => by simp [binOp, eqGuard, and0_u64]
theorem OpR.and1 (ha : a = 18446744073709551615) (h1 : 0 ≤ b) (h2 : b < 18446744073709551616) (hx : evS sl x = some (.v (.int .u64 a))) (hy : evS sl y = some (.v (.int .u64 b))) (ht : Nat.blt t nt = true) :
    OpR P nt ⟨sl, hp⟩ ⟨some t, .binOp .and T x y T', ty, pos, af, g⟩ ⟨insOf x (.v (.int .u64 a)) ++ insOf y (.v (.int .u64 b)), [], [], some t, .v (.int .u64 b), []⟩ ⟨(t, .v (.int .u64 b)) :: sl, hp⟩ := by
  subst ha
  exact OpR.binv hx hy ht fun w => by simp [binOp, eqGuard, and1_u64 b h1 h2]
theorem OpR.and32 (h1 : 0 ≤ a) (h2 : a < 18446744073709551616) (hx : evS sl x = some (.v (.int .u64 a))) (hy : evS sl y = some (.v (.int .u64 4294967295))) (ht : Nat.blt t nt = true) :
    OpR P nt ⟨sl, hp⟩ ⟨some t, .binOp .and T x y T', ty, pos, af, g⟩ ⟨insOf x (.v (.int .u64 a)) ++ insOf y (.v (.int .u64 4294967295)), [], [], some t, .v (.int .u64 (a % 4294967296)), []⟩ ⟨(t, .v (.int .u64 (a % 4294967296))) :: sl, hp⟩ :=
  OpR.binv hx hy ht fun w => by simp [binOp, eqGuard, and32_u64 a h1 h2]
theorem OpR.orU (i : Nat) (ha : a % 2 ^ i = 0) (h0 : 0 ≤ a) (hb : 0 ≤ b) (hb2 : b < 2 ^ i) (h1 : a + b < 18446744073709551616) (hx : evS sl x = some (.v (.int .u64 a))) (hy : evS sl y = some (.v (.int .u64 b))) (ht : Nat.blt t nt = true) :
    OpR P nt ⟨sl, hp⟩ ⟨some t, .binOp .or T x y T', ty, pos, af, g⟩ ⟨insOf x (.v (.int .u64 a)) ++ insOf y (.v (.int .u64 b)), [], [], some t, .v (.int .u64 (a + b)), []⟩ ⟨(t, .v (.int .u64 (a + b))) :: sl, hp⟩ :=
  OpR.binv hx hy ht fun w => by simp [binOp, eqGuard, or_u64 i a b ha h0 hb hb2 h1]
theorem not_bv (n : Int) : (((BitVec.ofInt 64 (-1) ^^^ BitVec.ofInt 64 n).toNat : Nat) : Int) = 18446744073709551615 - n % 18446744073709551616 := by
  have e : BitVec.ofInt 64 (-1) = BitVec.allOnes 64 := by decide
  rw [e, BitVec.allOnes_xor, BitVec.toNat_not]
  have h := toNat64 n
  have h2 := (BitVec.ofInt 64 n).isLt
  omega
theorem OpR.xorI (h1 : -9223372036854775808 ≤ a) (h2 : a ≤ 9223372036854775807) (hx : evS sl x = some (.v (.int .i64 a))) (ht : Nat.blt t nt = true) :
    OpR P nt ⟨sl, hp⟩ ⟨some t, .unOp .xor T x, ty, pos, af, g⟩ ⟨insOf x (.v (.int .i64 a)), [], [], some t, .v (.int .i64 (-1 - a)), []⟩ ⟨(t, .v (.int .i64 (-1 - a))) :: sl, hp⟩ :=
  OpR.unv hx ht fun w => by
    have e : Op.unary .xor (.int .i64 a) = pure (Value.int .i64 (-1 - a)) := by
      show pure (Value.int .i64 (IntKind.i64.wrap (((BitVec.ofInt 64 (-1) ^^^ BitVec.ofInt 64 a).toNat : Nat) : Int))) = _
      rw [not_bv, wrapI64]
      congr 2
      omega
    rw [e]
    rfl
theorem OpR.xorU (h1 : 0 ≤ a) (h2 : a < 18446744073709551616) (hx : evS sl x = some (.v (.int .u64 a))) (ht : Nat.blt t nt = true) :
    OpR P nt ⟨sl, hp⟩ ⟨some t, .unOp .xor T x, ty, pos, af, g⟩ ⟨insOf x (.v (.int .u64 a)), [], [], some t, .v (.int .u64 (18446744073709551615 - a)), []⟩ ⟨(t, .v (.int .u64 (18446744073709551615 - a))) :: sl, hp⟩ :=
  OpR.unv hx ht fun w => by
    have e0 : BitVec.ofInt 64 (IntKind.u64.max) = BitVec.ofInt 64 (-1) := by decide
    have e : Op.unary .xor (.int .u64 a) = pure (Value.int .u64 (18446744073709551615 - a)) := by
      show pure (Value.int .u64 (IntKind.u64.wrap (((BitVec.ofInt 64 (IntKind.u64.max) ^^^ BitVec.ofInt 64 a).toNat : Nat) : Int))) = _
      rw [e0, not_bv, wrapU64]
      congr 2
      omega
    rw [e]
    rfl
end

/-! ### Conversions -/
section
variable {S T : TypeId} {x : Operand} {ks : IntKind} {a : Int} [hs : TyInt P S ks]
theorem OpR.convUI [hk : TyInt P T .u64] (hx : evS sl x = some (.v (.int ks a))) (ht : Nat.blt t nt = true) (h1 : 0 ≤ a) (h2 : a < 18446744073709551616) :
    OpR P nt ⟨sl, hp⟩ ⟨some t, .convert S T x, ty, pos, af, g⟩ ⟨insOf x (.v (.int ks a)), [], [], some t, .v (.int .u64 a), []⟩ ⟨(t, .v (.int .u64 a)) :: sl, hp⟩ :=
  OpR.convK hs hk hx ht (by rw [wrapU64]; omega)
theorem OpR.convU [hk : TyInt P T .u64] (hx : evS sl x = some (.v (.int ks a))) (ht : Nat.blt t nt = true) :
    OpR P nt ⟨sl, hp⟩ ⟨some t, .convert S T x, ty, pos, af, g⟩ ⟨insOf x (.v (.int ks a)), [], [], some t, .v (.int .u64 (a % 18446744073709551616)), []⟩ ⟨(t, .v (.int .u64 (a % 18446744073709551616))) :: sl, hp⟩ :=
  OpR.convK hs hk hx ht (wrapU64 _)
theorem OpR.convW [hk : TyInt P T .i64] (hx : evS sl x = some (.v (.int ks a))) (ht : Nat.blt t nt = true) :
    OpR P nt ⟨sl, hp⟩ ⟨some t, .convert S T x, ty, pos, af, g⟩ ⟨insOf x (.v (.int ks a)), [], [], some t, .v (.int .i64 ((a + 9223372036854775808) % 18446744073709551616 - 9223372036854775808)), []⟩ ⟨(t, .v (.int .i64 ((a + 9223372036854775808) % 18446744073709551616 - 9223372036854775808))) :: sl, hp⟩ :=
  OpR.convK hs hk hx ht (wrapI64 _)
theorem OpR.conv8 [hk : TyInt P T .u8] (hx : evS sl x = some (.v (.int ks a))) (ht : Nat.blt t nt = true) (h1 : 0 ≤ a) (h2 : a < 256) :
    OpR P nt ⟨sl, hp⟩ ⟨some t, .convert S T x, ty, pos, af, g⟩ ⟨insOf x (.v (.int ks a)), [], [], some t, .v (.int .u8 a), []⟩ ⟨(t, .v (.int .u8 a)) :: sl, hp⟩ :=
  OpR.convK hs hk hx ht (by rw [wrapU8]; omega)
theorem OpR.conv16 [hk : TyInt P T .u16] (hx : evS sl x = some (.v (.int ks a))) (ht : Nat.blt t nt = true) (h1 : 0 ≤ a) (h2 : a < 65536) :
    OpR P nt ⟨sl, hp⟩ ⟨some t, .convert S T x, ty, pos, af, g⟩ ⟨insOf x (.v (.int ks a)), [], [], some t, .v (.int .u16 a), []⟩ ⟨(t, .v (.int .u16 a)) :: sl, hp⟩ :=
  OpR.convK hs hk hx ht (by rw [wrapU16]; omega)
end

/-! ### Calls of bodies that the model stands in for -/
theorem OpR.callX {fo : Operand} {f : FuncId} {xs : List Operand} {ats : Array TypeId} {Xs : List SV} {R : SV} (hfo : evS sl fo = some (.fn f [])) (hxs : evL sl xs = some Xs) (hi : R.ids = [])
    (h : ∀ β w, (callFunc f (denL β Xs).toArray).run P w = .ok (.value (R.den β)) w) (ht : Nat.blt t nt = true) :
    OpR P nt ⟨sl, hp⟩ ⟨some t, .call { callee := .value fo, args := xs.toArray, argTypes := ats }, ty, pos, af, g⟩ ⟨insOf fo (.fn f []) ++ insL xs Xs, [], [], some t, R, []⟩ ⟨(t, R) :: sl, hp⟩ := by
  refine ⟨StepOk.quiet rfl (by simp [Nat.blt] at ht; omega) (fun s _ _ _ i hi' => by rw [hi] at hi'; simp at hi') (fun F β a w hp _ => ?_), ⟨?_, by simp, by simp⟩, rfl⟩
  · have ef := eval_of (evC_of hfo) (fun p hp' => hp p (List.mem_append_left _ hp'))
    have ex := insL_eval hxs (fun p hp' => hp p (List.mem_append_right _ hp'))
    have hargs : (xs.toArray.map a.eval ++ (denL β []).toArray) = (denL β Xs).toArray := by
      rw [← ex]
      simp [denL]
    simp only [execOp, resolve, ef, SV.den, Deferred.ofValue, Sem.run_bind, Sem.run_pure, Result.andThen_ok, invoke, Array.empty_append]
    rw [hargs]
    exact h β w
  · intro p hp'
    rcases List.mem_append.1 hp' with h1 | h1
    · exact insOf_pre (s := ⟨sl, hp⟩) hfo p h1
    · exact insL_pre (s := ⟨sl, hp⟩) hxs p h1

/-! ### A piece of a row -/
def subBI (b : BI) (size i : Nat) (sub : Bool) : BI := bif sub then ⟨false, b.B, b.O + i * size, b.cap - i, none, []⟩ else ⟨true, 0, 0, b.cap - i, if b.cap = i then b.dn else b.dn.map (·.add (i * size)), []⟩
inductive Bnd (sl : List (Nat × SV)) (d : Nat) : Option Operand → List (Nat × SV) → Nat → Prop
  | none : Bnd sl d .none [] d
  | some {x : Operand} {k : IntKind} {v : Int} (h : evS sl x = .some (.v (.int k v))) (h0 : 0 ≤ v) : Bnd sl d (.some x) (insOf x (.v (.int k v))) v.toNat
theorem Bnd.pre {sl : List (Nat × SV)} {d : Nat} {x : Option Operand} {I : List (Nat × SV)} {i : Nat} (h : Bnd sl d x I i) : ∀ p ∈ I, getL sl p.1 = .some p.2 := by
  cases h with
  | none => simp
  | some h h0 => exact insOf_pre (s := ⟨sl, []⟩) h
theorem Bnd.ev {d : Nat} {x : Option Operand} {I : List (Nat × SV)} {i : Nat} {β : Nat → BI} {a : Act} (h : Bnd sl d x I i) (hI : ∀ p ∈ I, a.tmps[p.1]? = .some (p.2.den β)) : (x = .none ∧ i = d) ∨ ∃ y k, x = .some y ∧ a.eval y = .int k (i : Int) := by
  cases h with
  | none => exact .inl ⟨rfl, rfl⟩
  | @some x k v h h0 =>
    refine .inr ⟨x, k, rfl, ?_⟩
    rw [eval_of (evC_of h) hI, Int.toNat_of_nonneg h0]
    rfl
theorem run_sliceBound {w : World} {k : IntKind} {i y : Nat} (code : BoundsCode) (h : i ≤ y) : (Instr.sliceBound (.int k (i : Int)) y code).run P w = .ok i w := by
  simp only [Instr.sliceBound, asIntOf, Sem.run_bind, Sem.run_pure, Result.andThen_ok]
  rw [if_pos (by omega)]
  simp
theorem run_sliceBounds {w : World} {lo hi : Option Operand} {I J : List (Nat × SV)} {i j n cap : Nat} {β : Nat → BI} {a : Act} {s : Bool} (hlo : Bnd sl 0 lo I i) (hhi : Bnd sl n hi J j) (hI : ∀ p ∈ I, a.tmps[p.1]? = some (p.2.den β)) (hJ : ∀ p ∈ J, a.tmps[p.1]? = some (p.2.den β)) (h1 : i ≤ j) (h2 : j ≤ cap) :
    (Instr.sliceBounds s n cap (lo.map a.eval) (hi.map a.eval) none).run P w = .ok (i, j, cap) w := by
  rcases hlo.ev hI with ⟨rfl, rfl⟩ | ⟨y, k, rfl, hy⟩ <;> rcases hhi.ev hJ with ⟨rfl, rfl⟩ | ⟨z, k', rfl, hz⟩
  · simp [Instr.sliceBounds]
  · simp only [Instr.sliceBounds, Option.map_some, Option.map_none, hz, Sem.run_bind, Sem.run_pure, Result.andThen_ok, run_sliceBound _ h2]
  · simp only [Instr.sliceBounds, Option.map_some, Option.map_none, hy, Sem.run_bind, Sem.run_pure, Result.andThen_ok, run_sliceBound _ h1]
  · simp only [Instr.sliceBounds, Option.map_some, Option.map_none, hy, hz, Sem.run_bind, Sem.run_pure, Result.andThen_ok, run_sliceBound _ h2, run_sliceBound _ h1]
theorem flat_drop {α : Type} (E : Enc α) (l : List α) (i : Nat) : flat E (l.drop i) = (flat E l).drop (i * E.size) := by
  by_cases hi : i ≤ l.length
  · have h : flat E l = flat E (l.take i) ++ flat E (l.drop i) := by rw [← flat_append, List.take_append_drop]
    have h2 : (flat E (l.take i)).length = i * E.size := by rw [flat_len, List.length_take, Nat.min_eq_left hi]
    rw [h, ← h2, List.drop_left]
  · rw [List.drop_eq_nil_of_le (by omega), List.drop_eq_nil_of_le (by rw [flat_len]; exact Nat.mul_le_mul_right _ (by omega))]
    rfl
theorem flat_take {α : Type} (E : Enc α) (l : List α) (i : Nat) : flat E (l.take i) = (flat E l).take (i * E.size) := by
  by_cases hi : i ≤ l.length
  · have h : flat E l = flat E (l.take i) ++ flat E (l.drop i) := by rw [← flat_append, List.take_append_drop]
    have h2 : (flat E (l.take i)).length = i * E.size := by rw [flat_len, List.length_take, Nat.min_eq_left hi]
    rw [h, ← h2, List.take_left]
  · rw [List.take_of_length_le (by omega), List.take_of_length_le (by rw [flat_len]; exact Nat.mul_le_mul_right _ (by omega))]
theorem sub_rd {β : Nat → BI} {id : Nat} {w : World} {α : Type} {E : Enc α} {l : List α} {i m : Nat} (h : RdOk β id w E l) (hm : i + m ≤ l.length) : RdOk (upd β t (subBI (β id) E.size i (decide (0 < m)))) t w E ((l.drop i).take m) := by
  intro hne
  have h0 : 0 < m := by
    rcases Nat.eq_zero_or_pos m with rfl | h0
    · simp at hne
    · exact h0
  obtain ⟨⟨_, h1⟩, h2⟩ := h (by rintro rfl; simp at hm; omega)
  have hb : upd β t (subBI (β id) E.size i (decide (0 < m))) t = ⟨false, (β id).B, (β id).O + i * E.size, (β id).cap - i, none, []⟩ := by
    rw [upd_same]
    simp only [subBI, decide_eq_true h0, cond_true]
  rw [hb]
  refine ⟨⟨rfl, by simp; omega⟩, fun q u hu => ?_⟩
  dsimp only
  rw [flat_take, List.getElem?_take] at hu
  split at hu
  · rw [flat_drop, List.getElem?_drop] at hu
    rw [Nat.add_assoc]
    exact h2 _ u hu
  · cases hu
/-- A piece of a row that is only read. -/
theorem OpR.sliceRo {T : TypeId} {x : Operand} {lo hi : Option Operand} {I J : List (Nat × SV)} {id n i j : Nat} {e sz : Nat} {α : Type} {E : Enc α} {l : List α} [hT : TySlice P T e sz] (hx : evS sl x = some (.a id n)) (hc : getL hp id = some (.ro E l)) (hlo : Bnd sl 0 lo I i) (hhi : Bnd sl n hi J j)
    (hs : E.size = sz) (hij : i ≤ j) (hjn : j ≤ n) (hl : l.length = n) (ht : Nat.blt t nt = true) (hf : getL hp t = none) :
    OpR P nt ⟨sl, hp⟩ ⟨some t, .slice T x lo hi none, ty, pos, af, g⟩ ⟨insOf x (.a id n) ++ (I ++ J), [(id, .ro E l)], [t], some t, .a t (j - i), [(t, .ro E ((l.drop i).take (j - i)))]⟩ ⟨(t, .a t (j - i)) :: sl, (t, .ro E ((l.drop i).take (j - i))) :: hp⟩ := by
  subst hs
  subst hl
  have hti : t ≠ id := by rintro rfl; rw [hf] at hc; cases hc
  refine ⟨⟨rfl, fun F s a w hs hpre => ?_⟩, ⟨?_, by simpa using hc, by simpa using hf⟩, rfl⟩
  · obtain ⟨β, hs⟩ := hs
    obtain ⟨p1, p2, p3⟩ := hpre
    have hn := p3 t (by simp)
    have hci := p2 (id, .ro E l) (by simp)
    have q : ∀ p ∈ insOf x (.a id l.length) ++ (I ++ J), a.tmps[p.1]? = some (p.2.den β) := fun p hp => hs.2.2.1 _ _ (p1 p hp)
    have ex := eval_of (evC_of hx) (fun p hp' => q p (List.mem_append_left _ hp'))
    have hrd : RdOk β id w E l := hs.2.2.2.1.1 _ _ hci
    have hjc : j ≤ (β id).cap := by
      by_cases h0 : l = []
      · subst h0
        simp at hjn
        omega
      · have := (hrd h0).1.2
        omega
    have hb := run_sliceBounds (P := P) (w := w) (s := true) (cap := (β id).cap) hlo hhi (fun p hp' => q p (List.mem_append_right _ (List.mem_append_left _ hp'))) (fun p hp' => q p (List.mem_append_right _ (List.mem_append_right _ hp'))) hij hjc
    let b := subBI (β id) E.size i (decide (0 < j - i))
    have hrun : (execOp a.eval ⟨some t, .slice T x lo hi none, ty, pos, af, g⟩).run P w = .ok (.value ((SV.a t (j - i)).den (upd β t b))) w := by
      simp only [execOp, ex, SV.den, Instr.sliceAt, Sem.run_bind, run_underlying hT.h, Result.andThen_ok, Instr.slice, Option.map_none, hb, run_sizeOf' hT.hn, Sem.run_pure, upd_same]
      by_cases h0 : 0 < j - i
      · have hne : l ≠ [] := by rintro rfl; simp at hjn; omega
        obtain ⟨⟨k1, k2⟩, _⟩ := hrd hne
        rw [if_neg (by omega)]
        simp only [b, subBI, decide_eq_true h0, cond_true, BI.dn, k1, cond_false, Option.map_some, add_lit]
      · simp only [b, subBI, decide_eq_false h0, cond_false, BI.dn, cond_true]
    refine Oper.wp_ok hrun ?_
    have one : ∀ {k d}, getL [(t, Chunk.ro E ((l.drop i).take (j - i)))] k = some d → k = t ∧ d = .ro E ((l.drop i).take (j - i)) := by
      intro k d hk
      rw [getL_cons] at hk
      split at hk
      · rename_i e1
        injection hk with hk
        exact ⟨e1.symm, hk.symm⟩
      · simp [getL] at hk
    have hmv := hs.move (β' := upd β t b) (w' := w) (T := fun _ => False) [(t, .ro E ((l.drop i).take (j - i)))] (upd_old hn) (Fr.refl _ w) (fun _ h => h.elim)
      (fun k d hk => by
        obtain ⟨rfl, rfl⟩ := one hk
        exact sub_rd hrd (by omega))
      (fun k d g hk hg => by
        obtain ⟨rfl, rfl⟩ := one hk
        exact hg.elim)
      (fun k d g hk hg => by
        obtain ⟨rfl, rfl⟩ := one hk
        obtain ⟨hne, hg⟩ := hg
        have h0 : 0 < j - i := by
          rcases Nat.eq_zero_or_pos (j - i) with h | h
          · rw [h] at hne
            simp at hne
          · exact h
        rw [upd_same] at hg
        simp only [b, subBI, decide_eq_true h0, cond_true] at hg
        exact .inr ⟨id, _, hci, ⟨by rintro rfl; simp at hjn; omega, hg⟩, .inr (fun h => h.elim)⟩)
      (fun k k' d d' _ hk _ g hg _ => by
        obtain ⟨rfl, rfl⟩ := one hk
        exact hg.elim)
      (fun k d hk q hq => by
        obtain ⟨rfl, rfl⟩ := one hk
        simp [Chunk.ids] at hq)
    have hput := hmv.put (t := t) (x := .a t (j - i)) (by simp [Nat.blt] at ht; omega) (fun k hk => by
      have : k = t := by simpa [SV.ids] using hk
      subst this
      simp [getL_cons])
    exact ⟨_, hput⟩
  · intro p hp'
    rcases List.mem_append.1 hp' with h1 | h1
    · exact insOf_pre (s := ⟨sl, hp⟩) hx p h1
    · rcases List.mem_append.1 h1 with h1 | h1
      · exact hlo.pre p h1
      · exact hhi.pre p h1
/-- A piece of a row that from now on is only read. -/
theorem OpR.slice {T : TypeId} {x : Operand} {lo hi : Option Operand} {I J : List (Nat × SV)} {id n i j : Nat} {e sz : Nat} {α : Type} {c : Chunk} {E : Enc α} {l : List α} [hT : TySlice P T e sz] (hx : evS sl x = some (.a id n)) (hc : getL hp id = some c) [hr : RowC c E l] (hlo : Bnd sl 0 lo I i) (hhi : Bnd sl n hi J j)
    (hs : E.size = sz) (hij : i ≤ j) (hjn : j ≤ n) (hl : l.length = n) (ht : Nat.blt t nt = true) (hf : getL hp t = none) :
    OpR P nt ⟨sl, hp⟩ ⟨some t, .slice T x lo hi none, ty, pos, af, g⟩ ⟨insOf x (.a id n) ++ (I ++ J), [(id, c)], [t], some t, .a t (j - i), [(t, .ro E ((l.drop i).take (j - i))), (id, .ro E l)]⟩ ⟨(t, .a t (j - i)) :: sl, (t, .ro E ((l.drop i).take (j - i))) :: (id, .ro E l) :: hp⟩ := by
  subst hs
  subst hl
  have hti : t ≠ id := by rintro rfl; rw [hf] at hc; cases hc
  refine ⟨⟨rfl, fun F s a w hs hpre => ?_⟩, ⟨?_, by simpa using hc, by simpa using hf⟩, rfl⟩
  · obtain ⟨β, hs⟩ := hs
    obtain ⟨p1, p2, p3⟩ := hpre
    have hn := p3 t (by simp)
    have hci := p2 (id, c) (by simp)
    have q : ∀ p ∈ insOf x (.a id l.length) ++ (I ++ J), a.tmps[p.1]? = some (p.2.den β) := fun p hp => hs.2.2.1 _ _ (p1 p hp)
    have ex := eval_of (evC_of hx) (fun p hp' => q p (List.mem_append_left _ hp'))
    have hok := hs.2.2.2.1.1 _ _ hci
    have hrd := hr.read hok
    have hcap : l.length ≤ (β id).cap ∨ l = [] := by
      by_cases h0 : l = []
      · exact .inr h0
      · exact .inl (hrd h0).1.2
    have hjc : j ≤ (β id).cap := by
      rcases hcap with h | h
      · omega
      · subst h
        simp at hjn
        omega
    have hb := run_sliceBounds (P := P) (w := w) (s := true) (cap := (β id).cap) hlo hhi (fun p hp' => q p (List.mem_append_right _ (List.mem_append_left _ hp'))) (fun p hp' => q p (List.mem_append_right _ (List.mem_append_right _ hp'))) hij hjc
    let b := subBI (β id) E.size i (decide (0 < j - i))
    have hrun : (execOp a.eval ⟨some t, .slice T x lo hi none, ty, pos, af, g⟩).run P w = .ok (.value ((SV.a t (j - i)).den (upd β t b))) w := by
      simp only [execOp, ex, SV.den, Instr.sliceAt, Sem.run_bind, run_underlying hT.h, Result.andThen_ok, Instr.slice, Option.map_none, hb, run_sizeOf' hT.hn, Sem.run_pure, upd_same]
      by_cases h0 : 0 < j - i
      · have hne : l ≠ [] := by rintro rfl; simp at hjn; omega
        obtain ⟨⟨k1, k2⟩, _⟩ := hrd hne
        rw [if_neg (by omega)]
        simp only [b, subBI, decide_eq_true h0, cond_true, BI.dn, k1, cond_false, Option.map_some, add_lit]
      · simp only [b, subBI, decide_eq_false h0, cond_false, BI.dn, cond_true]
    refine Oper.wp_ok hrun ?_
    have one : ∀ {k d}, getL [(t, Chunk.ro E ((l.drop i).take (j - i))), (id, .ro E l)] k = some d → (k = t ∧ d = .ro E ((l.drop i).take (j - i))) ∨ (k = id ∧ d = .ro E l) := by
      intro k d hk
      rw [getL_cons] at hk
      split at hk
      · rename_i e1
        injection hk with hk
        exact .inl ⟨e1.symm, hk.symm⟩
      · rw [getL_cons] at hk
        split at hk
        · rename_i e1
          injection hk with hk
          exact .inr ⟨e1.symm, hk.symm⟩
        · simp [getL] at hk
    have bid : upd β t b id = β id := upd_other _ _ (Ne.symm hti)
    have some_id : (getL [(t, Chunk.ro E ((l.drop i).take (j - i))), (id, .ro E l)] id).isSome = true := by
      rw [getL_cons, if_neg hti, getL_cons, if_pos rfl]
      rfl
    have blk : ∀ g, l ≠ [] → g = (β id).B → Bl β id c g := by
      intro g hne hg
      rcases hr.h with rfl | rfl | ⟨e', rfl⟩
      · exact ⟨hne, hg⟩
      · exact ⟨hne, hg⟩
      · exact ⟨(hrd hne).1.1, hg⟩
    have hmv := hs.move (β' := upd β t b) (w' := w) (T := fun _ => False) [(t, .ro E ((l.drop i).take (j - i))), (id, .ro E l)] (upd_old hn) (Fr.refl _ w) (fun _ h => h.elim)
      (fun k d hk => by
        rcases one hk with ⟨rfl, rfl⟩ | ⟨rfl, rfl⟩
        · exact sub_rd hrd (by omega)
        · have : RdOk (upd β t b) k w E l := by
            unfold RdOk
            rw [bid]
            exact hrd
          exact this)
      (fun k d g hk hg => by
        rcases one hk with ⟨rfl, rfl⟩ | ⟨rfl, rfl⟩ <;> exact hg.elim)
      (fun k d g hk hg => by
        rcases one hk with ⟨rfl, rfl⟩ | ⟨rfl, rfl⟩
        · obtain ⟨hne, hg⟩ := hg
          have h0 : 0 < j - i := by
            rcases Nat.eq_zero_or_pos (j - i) with h | h
            · rw [h] at hne
              simp at hne
            · exact h
          rw [upd_same] at hg
          simp only [b, subBI, decide_eq_true h0, cond_true] at hg
          exact .inr ⟨id, c, hci, blk g (by rintro rfl; simp at hjn; omega) hg, .inl some_id⟩
        · obtain ⟨hne, hg⟩ := hg
          rw [bid] at hg
          exact .inr ⟨k, c, hci, blk g hne hg, .inl some_id⟩)
      (fun k k' d d' _ hk _ g hg _ => by
        rcases one hk with ⟨rfl, rfl⟩ | ⟨rfl, rfl⟩ <;> exact hg.elim)
      (fun k d hk q hq => by
        rcases one hk with ⟨rfl, rfl⟩ | ⟨rfl, rfl⟩ <;> simp [Chunk.ids] at hq)
    have hput := hmv.put (t := t) (x := .a t (j - i)) (by simp [Nat.blt] at ht; omega) (fun k hk => by
      have : k = t := by simpa [SV.ids] using hk
      subst this
      simp [getL_cons])
    exact ⟨_, hput⟩
  · intro p hp'
    rcases List.mem_append.1 hp' with h1 | h1
    · exact insOf_pre (s := ⟨sl, hp⟩) hx p h1
    · rcases List.mem_append.1 h1 with h1 | h1
      · exact hlo.pre p h1
      · exact hhi.pre p h1
end
end Go.Proofs.Ytiboffhdabeiiaa
