/-
  The symbolic state: the operations that only look. Plain lemmas over any program.
-/
import Derived.Test.YtiboffhdabeiiaaSxB
namespace Go.Proofs.Ytiboffhdabeiiaa
open Go Go.RowKit

class TyInt (P : Program) (T : TypeId) (k : outParam IntKind) : Prop where
  h : P.underlying T = some (.int k)
def aggOf (P : Program) (T : TypeId) : Option Bool := match P.underlying T with
  | some (.struct _) => some true
  | some (.array _ _) => some true
  | some _ => some false
  | none => none
class TyShape (P : Program) (T : TypeId) (agg : outParam Bool) (n : outParam Nat) : Prop where
  h : aggOf P T = some agg
  hn : (P.info? T).map (·.size) = some n
def fieldOf (P : Program) (T : TypeId) (i : Nat) : Option (Nat × TypeId) := match P.underlying T with
  | some (.struct fs) => (fs[i]?).map fun f => (f.offset, f.type)
  | _ => none
class TyField (P : Program) (T : TypeId) (i : Nat) (off : outParam Nat) (ft : outParam TypeId) (agg : outParam Bool) (n : outParam Nat) : Prop where
  h : fieldOf P T i = some (off, ft)
  ha : aggOf P ft = some agg
  hn : (P.info? ft).map (·.size) = some n
  pos : n ≠ 0
class TySlice (P : Program) (T : TypeId) (e : outParam TypeId) (size : outParam Nat) : Prop where
  h : P.underlying T = some (.slice e)
  hn : (P.info? e).map (·.size) = some size

section
variable {P : Program} {w : World}
theorem run_isAgg' {T : TypeId} {b : Bool} (h : aggOf P T = some b) : (isAgg T).run P w = .ok b w := by
  unfold aggOf at h
  split at h
  all_goals (first | (injection h with h; subst h) | cases h)
  · rename_i fs he
    simp [isAgg, run_underlying he]
  · rename_i n e he
    simp [isAgg, run_underlying he]
  · rename_i d h1 h2 he
    simp only [isAgg, Sem.run_bind, run_underlying he, Result.andThen_ok]
    rfl
theorem run_sizeOf' {T : TypeId} {n : Nat} (h : (P.info? T).map (·.size) = some n) : (sizeOf T).run P w = .ok n w := by
  cases hi : P.info? T with
  | none => rw [hi] at h; cases h
  | some i =>
    rw [hi] at h
    simp at h
    simp [sizeOf, typeInfo, hi, h]
end

section
variable {P : Program} {nt : Nat} {o : Oper} {sl : List (Nat × SV)} {hp : List (Nat × Chunk)} {t : Nat}

theorem OpR.q1 {x : Operand} {X V : SV} (hd : o.dst = some t) (ht : Nat.blt t nt = true) (hx : evS sl x = some X) (hids : ∀ i ∈ V.ids, i ∈ X.ids)
    (h : ∀ (β : Nat → BI) (a : Act) (w : World), a.eval x = X.den β → (execOp a.eval o).run P w = .ok (.value (V.den β)) w) :
    OpR P nt ⟨sl, hp⟩ o ⟨insOf x X, [], [], some t, V, []⟩ ⟨(t, V) :: sl, hp⟩ := by
  refine ⟨StepOk.quiet hd (by simp [Nat.blt] at ht; omega) ?_ ?_, ⟨insOf_pre (s := ⟨sl, hp⟩) hx, by simp, by simp⟩, rfl⟩
  · intro s hc hp _ i hi
    exact ids_of hc (evC_of hx) hp i (hids i hi)
  · intro F β a w hp _
    exact h β a w (eval_of (evC_of hx) hp)
theorem OpR.q2 {x y : Operand} {X Y V : SV} (hd : o.dst = some t) (ht : Nat.blt t nt = true) (hx : evS sl x = some X) (hy : evS sl y = some Y) (hids : ∀ i ∈ V.ids, i ∈ X.ids ∨ i ∈ Y.ids)
    (h : ∀ (β : Nat → BI) (a : Act) (w : World), a.eval x = X.den β → a.eval y = Y.den β → (execOp a.eval o).run P w = .ok (.value (V.den β)) w) :
    OpR P nt ⟨sl, hp⟩ o ⟨insOf x X ++ insOf y Y, [], [], some t, V, []⟩ ⟨(t, V) :: sl, hp⟩ := by
  refine ⟨StepOk.quiet hd (by simp [Nat.blt] at ht; omega) ?_ ?_, ⟨?_, by simp, by simp⟩, rfl⟩
  · intro s hc hp _ i hi
    rcases hids i hi with h1 | h1
    · exact ids_of hc (evC_of hx) (fun p hp' => hp p (List.mem_append_left _ hp')) i h1
    · exact ids_of hc (evC_of hy) (fun p hp' => hp p (List.mem_append_right _ hp')) i h1
  · intro F β a w hp _
    exact h β a w (eval_of (evC_of hx) (fun p hp' => hp p (List.mem_append_left _ hp'))) (eval_of (evC_of hy) (fun p hp' => hp p (List.mem_append_right _ hp')))
  · intro p hp'
    rcases List.mem_append.1 hp' with h1 | h1
    · exact insOf_pre (s := ⟨sl, hp⟩) hx p h1
    · exact insOf_pre (s := ⟨sl, hp⟩) hy p h1

variable {ty : TypeId} {pos : String} {af : Array Edge} {g : Option (Nat × Bool)}

theorem OpR.move {x : Operand} {X : SV} (hx : evS sl x = some X) (ht : Nat.blt t nt = true) : OpR P nt ⟨sl, hp⟩ ⟨some t, .move x, ty, pos, af, g⟩ ⟨insOf x X, [], [], some t, X, []⟩ ⟨(t, X) :: sl, hp⟩ :=
  OpR.q1 rfl ht hx (fun _ h => h) fun β a w h => by simp [execOp, h]
theorem OpR.assign {x : Operand} {X : SV} (hx : evS sl x = some X) (ht : Nat.blt t nt = true) : OpR P nt ⟨sl, hp⟩ ⟨some t, .assign x, ty, pos, af, g⟩ ⟨insOf x X, [], [], some t, X, []⟩ ⟨(t, X) :: sl, hp⟩ :=
  OpR.q1 rfl ht hx (fun _ h => h) fun β a w h => by simp [execOp, h]
theorem OpR.pickT {c x y : Operand} {b : Bool} {X : SV} (hc : evS sl c = some (.v (.bool b))) (hb : b = true) (hx : evS sl x = some X) (ht : Nat.blt t nt = true) :
    OpR P nt ⟨sl, hp⟩ ⟨some t, .pick c x y, ty, pos, af, g⟩ ⟨insOf c (.v (.bool b)) ++ insOf x X, [], [], some t, X, []⟩ ⟨(t, X) :: sl, hp⟩ :=
  OpR.q2 rfl ht hc hx (fun _ h => .inr h) fun β a w h1 h2 => by subst hb; simp [execOp, h1, h2, SV.den, asBool]
theorem OpR.pickF {c x y : Operand} {b : Bool} {Y : SV} (hc : evS sl c = some (.v (.bool b))) (hb : b = false) (hy : evS sl y = some Y) (ht : Nat.blt t nt = true) :
    OpR P nt ⟨sl, hp⟩ ⟨some t, .pick c x y, ty, pos, af, g⟩ ⟨insOf c (.v (.bool b)) ++ insOf y Y, [], [], some t, Y, []⟩ ⟨(t, Y) :: sl, hp⟩ :=
  OpR.q2 rfl ht hc hy (fun _ h => .inr h) fun β a w h1 h2 => by subst hb; simp [execOp, h1, h2, SV.den, asBool]

/-- Two plain values, put together. -/
theorem OpR.binv {op : BinOp} {T T' : TypeId} {x y : Operand} {A B V : Value} (hx : evS sl x = some (.v A)) (hy : evS sl y = some (.v B)) (ht : Nat.blt t nt = true)
    (h : ∀ w : World, (do eqGuard op T x y A B; binOp op T A B : Sem Value).run P w = .ok V w) :
    OpR P nt ⟨sl, hp⟩ ⟨some t, .binOp op T x y T', ty, pos, af, g⟩ ⟨insOf x (.v A) ++ insOf y (.v B), [], [], some t, .v V, []⟩ ⟨(t, .v V) :: sl, hp⟩ :=
  OpR.q2 rfl ht hx hy (fun _ h => by simp [SV.ids] at h) fun β a w h1 h2 => by
    have := h w
    simp only [Sem.run_bind] at this
    simp only [execOp, h1, h2, SV.den, Sem.run_bind]
    rw [this]
    rfl
section
variable {T T' : TypeId} {x y : Operand} {k : IntKind} {a b : Int} (hx : evS sl x = some (.v (.int k a))) (hy : evS sl y = some (.v (.int k b))) (ht : Nat.blt t nt = true)
include hx hy ht
theorem OpR.lss : OpR P nt ⟨sl, hp⟩ ⟨some t, .binOp .lss T x y T', ty, pos, af, g⟩ ⟨insOf x (.v (.int k a)) ++ insOf y (.v (.int k b)), [], [], some t, .v (.bool (decide (a < b))), []⟩ ⟨(t, .v (.bool (decide (a < b)))) :: sl, hp⟩ :=
  OpR.binv hx hy ht fun w => by simp [go_sem]
theorem OpR.leq : OpR P nt ⟨sl, hp⟩ ⟨some t, .binOp .leq T x y T', ty, pos, af, g⟩ ⟨insOf x (.v (.int k a)) ++ insOf y (.v (.int k b)), [], [], some t, .v (.bool (decide (a ≤ b))), []⟩ ⟨(t, .v (.bool (decide (a ≤ b)))) :: sl, hp⟩ :=
  OpR.binv hx hy ht fun w => by simp [go_sem]
theorem OpR.gtr : OpR P nt ⟨sl, hp⟩ ⟨some t, .binOp .gtr T x y T', ty, pos, af, g⟩ ⟨insOf x (.v (.int k a)) ++ insOf y (.v (.int k b)), [], [], some t, .v (.bool (decide (b < a))), []⟩ ⟨(t, .v (.bool (decide (b < a)))) :: sl, hp⟩ :=
  OpR.binv hx hy ht fun w => by simp [go_sem]
theorem OpR.geq : OpR P nt ⟨sl, hp⟩ ⟨some t, .binOp .geq T x y T', ty, pos, af, g⟩ ⟨insOf x (.v (.int k a)) ++ insOf y (.v (.int k b)), [], [], some t, .v (.bool (decide (b ≤ a))), []⟩ ⟨(t, .v (.bool (decide (b ≤ a)))) :: sl, hp⟩ :=
  OpR.binv hx hy ht fun w => by simp [go_sem]
theorem OpR.eql : OpR P nt ⟨sl, hp⟩ ⟨some t, .binOp .eql T x y T', ty, pos, af, g⟩ ⟨insOf x (.v (.int k a)) ++ insOf y (.v (.int k b)), [], [], some t, .v (.bool (decide (a = b))), []⟩ ⟨(t, .v (.bool (decide (a = b)))) :: sl, hp⟩ :=
  OpR.binv hx hy ht fun w => by simp [go_sem]; by_cases h : a = b <;> simp [h]
theorem OpR.neq : OpR P nt ⟨sl, hp⟩ ⟨some t, .binOp .neq T x y T', ty, pos, af, g⟩ ⟨insOf x (.v (.int k a)) ++ insOf y (.v (.int k b)), [], [], some t, .v (.bool (decide (a ≠ b))), []⟩ ⟨(t, .v (.bool (decide (a ≠ b)))) :: sl, hp⟩ :=
  OpR.binv hx hy ht fun w => by simp [go_sem]; by_cases h : a = b <;> simp [h, bne]
theorem OpR.addK {r : Int} (hr : k.wrap (a + b) = r) : OpR P nt ⟨sl, hp⟩ ⟨some t, .binOp .add T x y T', ty, pos, af, g⟩ ⟨insOf x (.v (.int k a)) ++ insOf y (.v (.int k b)), [], [], some t, .v (.int k r), []⟩ ⟨(t, .v (.int k r)) :: sl, hp⟩ :=
  OpR.binv hx hy ht fun w => by subst hr; simp [go_sem]
theorem OpR.subK {r : Int} (hr : k.wrap (a - b) = r) : OpR P nt ⟨sl, hp⟩ ⟨some t, .binOp .sub T x y T', ty, pos, af, g⟩ ⟨insOf x (.v (.int k a)) ++ insOf y (.v (.int k b)), [], [], some t, .v (.int k r), []⟩ ⟨(t, .v (.int k r)) :: sl, hp⟩ :=
  OpR.binv hx hy ht fun w => by subst hr; simp [go_sem]
theorem OpR.mulK {r : Int} (hr : k.wrap (a * b) = r) : OpR P nt ⟨sl, hp⟩ ⟨some t, .binOp .mul T x y T', ty, pos, af, g⟩ ⟨insOf x (.v (.int k a)) ++ insOf y (.v (.int k b)), [], [], some t, .v (.int k r), []⟩ ⟨(t, .v (.int k r)) :: sl, hp⟩ :=
  OpR.binv hx hy ht fun w => by subst hr; simp [go_sem]
theorem OpR.quoK {r : Int} (h0 : b ≠ 0) (hr : k.wrap (a.tdiv b) = r) : OpR P nt ⟨sl, hp⟩ ⟨some t, .binOp .quo T x y T', ty, pos, af, g⟩ ⟨insOf x (.v (.int k a)) ++ insOf y (.v (.int k b)), [], [], some t, .v (.int k r), []⟩ ⟨(t, .v (.int k r)) :: sl, hp⟩ :=
  OpR.binv hx hy ht fun w => by subst hr; simp [go_sem, h0]
theorem OpR.remK {r : Int} (h0 : b ≠ 0) (hr : a.tmod b = r) : OpR P nt ⟨sl, hp⟩ ⟨some t, .binOp .rem T x y T', ty, pos, af, g⟩ ⟨insOf x (.v (.int k a)) ++ insOf y (.v (.int k b)), [], [], some t, .v (.int k r), []⟩ ⟨(t, .v (.int k r)) :: sl, hp⟩ :=
  OpR.binv hx hy ht fun w => by subst hr; simp [go_sem, h0]
theorem OpR.quoP (h0 : 0 ≤ a) (h1 : 0 < b) (hr : a ≤ k.max) : OpR P nt ⟨sl, hp⟩ ⟨some t, .binOp .quo T x y T', ty, pos, af, g⟩ ⟨insOf x (.v (.int k a)) ++ insOf y (.v (.int k b)), [], [], some t, .v (.int k (a / b)), []⟩ ⟨(t, .v (.int k (a / b))) :: sl, hp⟩ := by
  refine OpR.quoK hx hy ht (by omega) ?_
  rw [Int.tdiv_eq_ediv_of_nonneg h0]
  have h2 : 0 ≤ a / b := Int.ediv_nonneg h0 (by omega)
  have h3 : a / b ≤ a := Int.ediv_le_self _ h0
  generalize a / b = q at *
  cases k <;> simp [IntKind.max, IntKind.signed, IntKind.bits] at hr <;> simp [IntKind.wrap, IntKind.signed, IntKind.bits] <;> omega
theorem OpR.remP (h0 : 0 ≤ a) (h1 : 0 < b) : OpR P nt ⟨sl, hp⟩ ⟨some t, .binOp .rem T x y T', ty, pos, af, g⟩ ⟨insOf x (.v (.int k a)) ++ insOf y (.v (.int k b)), [], [], some t, .v (.int k (a % b)), []⟩ ⟨(t, .v (.int k (a % b))) :: sl, hp⟩ :=
  OpR.remK hx hy ht (by omega) (Int.tmod_eq_emod_of_nonneg h0)
end
theorem wrap64_in {n : Int} (h1 : -9223372036854775808 ≤ n) (h2 : n ≤ 9223372036854775807) : IntKind.i64.wrap n = n := IntWalk.i64_in _ ⟨h1, h2⟩
section
variable {T T' : TypeId} {x y : Operand} {a b : Int} (hx : evS sl x = some (.v (.int .i64 a))) (hy : evS sl y = some (.v (.int .i64 b))) (ht : Nat.blt t nt = true)
include hx hy ht
theorem OpR.add64 (h1 : -9223372036854775808 ≤ a + b) (h2 : a + b ≤ 9223372036854775807) : OpR P nt ⟨sl, hp⟩ ⟨some t, .binOp .add T x y T', ty, pos, af, g⟩ ⟨insOf x (.v (.int .i64 a)) ++ insOf y (.v (.int .i64 b)), [], [], some t, .v (.int .i64 (a + b)), []⟩ ⟨(t, .v (.int .i64 (a + b))) :: sl, hp⟩ :=
  OpR.addK hx hy ht (wrap64_in h1 h2)
theorem OpR.sub64 (h1 : -9223372036854775808 ≤ a - b) (h2 : a - b ≤ 9223372036854775807) : OpR P nt ⟨sl, hp⟩ ⟨some t, .binOp .sub T x y T', ty, pos, af, g⟩ ⟨insOf x (.v (.int .i64 a)) ++ insOf y (.v (.int .i64 b)), [], [], some t, .v (.int .i64 (a - b)), []⟩ ⟨(t, .v (.int .i64 (a - b))) :: sl, hp⟩ :=
  OpR.subK hx hy ht (wrap64_in h1 h2)
theorem OpR.mul64 (h1 : -9223372036854775808 ≤ a * b) (h2 : a * b ≤ 9223372036854775807) : OpR P nt ⟨sl, hp⟩ ⟨some t, .binOp .mul T x y T', ty, pos, af, g⟩ ⟨insOf x (.v (.int .i64 a)) ++ insOf y (.v (.int .i64 b)), [], [], some t, .v (.int .i64 (a * b)), []⟩ ⟨(t, .v (.int .i64 (a * b))) :: sl, hp⟩ :=
  OpR.mulK hx hy ht (wrap64_in h1 h2)
end
theorem OpR.unv {op : UnOp} {T : TypeId} {x : Operand} {A V : Value} (hx : evS sl x = some (.v A)) (ht : Nat.blt t nt = true) (h : ∀ w : World, (Op.unary op A).run P w = .ok V w) :
    OpR P nt ⟨sl, hp⟩ ⟨some t, .unOp op T x, ty, pos, af, g⟩ ⟨insOf x (.v A), [], [], some t, .v V, []⟩ ⟨(t, .v V) :: sl, hp⟩ :=
  OpR.q1 rfl ht hx (fun _ h => by simp [SV.ids] at h) fun β a w h1 => by simp [execOp, h1, SV.den, h]
theorem OpR.not {T : TypeId} {x : Operand} {b : Bool} (hx : evS sl x = some (.v (.bool b))) (ht : Nat.blt t nt = true) :
    OpR P nt ⟨sl, hp⟩ ⟨some t, .unOp .not T x, ty, pos, af, g⟩ ⟨insOf x (.v (.bool b)), [], [], some t, .v (.bool (!b)), []⟩ ⟨(t, .v (.bool (!b))) :: sl, hp⟩ :=
  OpR.unv hx ht fun w => by simp [Op.unary]
theorem OpR.neg64 {T : TypeId} {x : Operand} {a : Int} (hx : evS sl x = some (.v (.int .i64 a))) (ht : Nat.blt t nt = true) (h1 : -9223372036854775807 ≤ a) (h2 : a ≤ 9223372036854775807) :
    OpR P nt ⟨sl, hp⟩ ⟨some t, .unOp .neg T x, ty, pos, af, g⟩ ⟨insOf x (.v (.int .i64 a)), [], [], some t, .v (.int .i64 (-a)), []⟩ ⟨(t, .v (.int .i64 (-a))) :: sl, hp⟩ :=
  OpR.unv hx ht fun w => by simp [Op.unary, Op.intArith]; exact wrap64_in (by omega) (by omega)
theorem OpR.convK {S T : TypeId} {x : Operand} {ks k : IntKind} {a r : Int} (hs : TyInt P S ks) (hk : TyInt P T k) (hx : evS sl x = some (.v (.int ks a))) (ht : Nat.blt t nt = true) (hr : k.wrap a = r) :
    OpR P nt ⟨sl, hp⟩ ⟨some t, .convert S T x, ty, pos, af, g⟩ ⟨insOf x (.v (.int ks a)), [], [], some t, .v (.int k r), []⟩ ⟨(t, .v (.int k r)) :: sl, hp⟩ :=
  OpR.q1 rfl ht hx (fun _ h => by simp [SV.ids] at h) fun β a w h1 => by
    subst hr
    simp [execOp, h1, SV.den, convert, run_underlying hs.h, run_underlying hk.h, Conv.intToInt]
theorem OpR.conv64 {S T : TypeId} {x : Operand} {ks : IntKind} {a : Int} [hs : TyInt P S ks] [hk : TyInt P T .i64] (hx : evS sl x = some (.v (.int ks a))) (ht : Nat.blt t nt = true) (h1 : -9223372036854775808 ≤ a) (h2 : a ≤ 9223372036854775807) :
    OpR P nt ⟨sl, hp⟩ ⟨some t, .convert S T x, ty, pos, af, g⟩ ⟨insOf x (.v (.int ks a)), [], [], some t, .v (.int .i64 a), []⟩ ⟨(t, .v (.int .i64 a)) :: sl, hp⟩ :=
  OpR.convK hs hk hx ht (wrap64_in h1 h2)
theorem OpR.makeFunc0 {f : FuncId} (ht : Nat.blt t nt = true) :
    OpR P nt ⟨sl, hp⟩ ⟨some t, .makeFunc (.func f) #[] #[], ty, pos, af, g⟩ ⟨insOf (.const undef) (.v undef), [], [], some t, .fn f [], []⟩ ⟨(t, .fn f []) :: sl, hp⟩ :=
  OpR.q1 (x := .const undef) (X := .v undef) rfl ht rfl (fun _ h => by simp [SV.ids, idsL] at h) fun β a w h1 => by simp [execOp, SV.den, denL, Instr.makeFunc]
theorem OpR.makeFunc1 {f : FuncId} {x : Operand} {X : SV} (hx : evS sl x = some X) (ht : Nat.blt t nt = true) :
    OpR P nt ⟨sl, hp⟩ ⟨some t, .makeFunc (.func f) #[] #[x], ty, pos, af, g⟩ ⟨insOf x X, [], [], some t, .fn f [X], []⟩ ⟨(t, .fn f [X]) :: sl, hp⟩ :=
  OpR.q1 rfl ht hx (fun _ h => by simpa [SV.ids, idsL] using h) fun β a w h1 => by simp [execOp, SV.den, denL, Instr.makeFunc, h1]
theorem OpR.makeFunc2 {f : FuncId} {x y : Operand} {X Y : SV} (hx : evS sl x = some X) (hy : evS sl y = some Y) (ht : Nat.blt t nt = true) :
    OpR P nt ⟨sl, hp⟩ ⟨some t, .makeFunc (.func f) #[] #[x, y], ty, pos, af, g⟩ ⟨insOf x X ++ insOf y Y, [], [], some t, .fn f [X, Y], []⟩ ⟨(t, .fn f [X, Y]) :: sl, hp⟩ :=
  OpR.q2 rfl ht hx hy (fun _ h => by simpa [SV.ids, idsL] using h) fun β a w h1 h2 => by simp [execOp, SV.den, denL, Instr.makeFunc, h1, h2]
theorem OpR.nilCheckP {x : Operand} {id off : Nat} (hx : evS sl x = some (.p id off)) (ht : Nat.blt t nt = true) :
    OpR P nt ⟨sl, hp⟩ ⟨some t, .nilCheck x, ty, pos, af, g⟩ ⟨insOf x (.p id off), [], [], some t, .p id off, []⟩ ⟨(t, .p id off) :: sl, hp⟩ :=
  OpR.q1 rfl ht hx (fun _ h => h) fun β a w h1 => by simp [execOp, h1, SV.den]
theorem OpR.nilCheckF {x : Operand} {f : FuncId} {cap : List SV} (hx : evS sl x = some (.fn f cap)) (ht : Nat.blt t nt = true) :
    OpR P nt ⟨sl, hp⟩ ⟨some t, .nilCheck x, ty, pos, af, g⟩ ⟨insOf x (.fn f cap), [], [], some t, .fn f cap, []⟩ ⟨(t, .fn f cap) :: sl, hp⟩ :=
  OpR.q1 rfl ht hx (fun _ h => h) fun β a w h1 => by simp [execOp, h1, SV.den]
theorem OpR.extract {x : Operand} {l : List SV} {i : Nat} {V : SV} (hx : evS sl x = some (.tup l)) (hi : l[i]? = some V) (ht : Nat.blt t nt = true) :
    OpR P nt ⟨sl, hp⟩ ⟨some t, .extract x i, ty, pos, af, g⟩ ⟨insOf x (.tup l), [], [], some t, V, []⟩ ⟨(t, V) :: sl, hp⟩ :=
  OpR.q1 rfl ht hx (fun j hj => by simp only [SV.ids]; exact mem_idsL.2 ⟨V, List.mem_of_getElem? hi, hj⟩) fun β a w h1 => by
    have : (denL β l)[i]? = some (V.den β) := by rw [denL_eq, List.getElem?_map, hi]; rfl
    simp [execOp, h1, SV.den, Instr.extract, this]
theorem idsL_sub {l : List SV} {i n : Nat} {j : Nat} (h : j ∈ idsL ((l.drop i).take n)) : j ∈ idsL l := by
  obtain ⟨x, hx, hj⟩ := mem_idsL.1 h
  exact mem_idsL.2 ⟨x, List.mem_of_mem_drop (List.mem_of_mem_take hx), hj⟩
theorem denL_part (β : Nat → BI) (l : List SV) (i n : Nat) : (denL β l).toArray.extract i (i + n) = (denL β ((l.drop i).take n)).toArray := by
  apply Array.ext'
  rw [denL_eq, denL_eq]
  simp [List.map_take, List.map_drop]
theorem OpR.field1 {T : TypeId} {x : Operand} {i off n : Nat} {ft : TypeId} {l : List SV} {V : SV} [hf : TyField P T i off ft false n] (hx : evS sl x = some (.agg l)) (hi : l[off]? = some V) (ht : Nat.blt t nt = true) :
    OpR P nt ⟨sl, hp⟩ ⟨some t, .field T x i, ty, pos, af, g⟩ ⟨insOf x (.agg l), [], [], some t, V, []⟩ ⟨(t, V) :: sl, hp⟩ :=
  OpR.q1 rfl ht hx (fun j hj => by simp only [SV.ids]; exact mem_idsL.2 ⟨V, List.mem_of_getElem? hi, hj⟩) fun β a w h1 => by
    have h2 : (denL β l)[off]? = some (V.den β) := by rw [denL_eq, List.getElem?_map, hi]; rfl
    have h3 := hf.h
    unfold fieldOf at h3
    split at h3
    · rename_i fs hu
      cases hfi : fs[i]? with
      | none => rw [hfi] at h3; cases h3
      | some f =>
        rw [hfi] at h3
        simp at h3
        simp [execOp, h1, SV.den, Instr.field, run_underlying hu, hfi, asAgg, part, h3.1, h3.2, run_isAgg' hf.ha, h2]
    · cases h3
theorem OpR.fieldA {T : TypeId} {x : Operand} {i off n : Nat} {ft : TypeId} {l : List SV} [hf : TyField P T i off ft true n] (hx : evS sl x = some (.agg l)) (ht : Nat.blt t nt = true) :
    OpR P nt ⟨sl, hp⟩ ⟨some t, .field T x i, ty, pos, af, g⟩ ⟨insOf x (.agg l), [], [], some t, .agg ((l.drop off).take n), []⟩ ⟨(t, .agg ((l.drop off).take n)) :: sl, hp⟩ :=
  OpR.q1 rfl ht hx (fun j hj => by simp only [SV.ids] at hj ⊢; exact idsL_sub hj) fun β a w h1 => by
    have h3 := hf.h
    unfold fieldOf at h3
    split at h3
    · rename_i fs hu
      cases hfi : fs[i]? with
      | none => rw [hfi] at h3; cases h3
      | some f =>
        rw [hfi] at h3
        simp at h3
        have h4 := denL_part β l off n
        simp only [execOp, h1, SV.den, Instr.field, Sem.run_bind, run_underlying hu, Result.andThen_ok, hfi, asAgg, Sem.run_pure, part, h3.1, h3.2, run_isAgg' hf.ha, run_sizeOf' hf.hn, if_true, h4]
    · cases h3
theorem OpR.fieldAddrP {T : TypeId} {x : Operand} {i foff n : Nat} {ft : TypeId} {b : Bool} {id off : Nat} [hf : TyField P T i foff ft b n] (hx : evS sl x = some (.p id off)) (ht : Nat.blt t nt = true) :
    OpR P nt ⟨sl, hp⟩ ⟨some t, .fieldAddr T x i, ty, pos, af, g⟩ ⟨insOf x (.p id off), [], [], some t, .p id (off + foff), []⟩ ⟨(t, .p id (off + foff)) :: sl, hp⟩ :=
  OpR.q1 rfl ht hx (fun j hj => hj) fun β a w h1 => by
    have h3 := hf.h
    unfold fieldOf at h3
    split at h3
    · rename_i fs hu
      cases hfi : fs[i]? with
      | none => rw [hfi] at h3; cases h3
      | some f =>
        rw [hfi] at h3
        simp at h3
        simp [execOp, h1, SV.den, Instr.fieldAt, run_underlying hu, hfi, Instr.sureAddr, fieldPlace, h3.1, h3.2, run_sizeOf' hf.hn, hf.pos, add_lit]
    · cases h3
theorem OpR.fieldAddrE {T : TypeId} {x : Operand} {i foff n : Nat} {ft : TypeId} {b : Bool} {id size k j : Nat} [hf : TyField P T i foff ft b n] (hx : evS sl x = some (.e id size k j)) (ht : Nat.blt t nt = true) :
    OpR P nt ⟨sl, hp⟩ ⟨some t, .fieldAddr T x i, ty, pos, af, g⟩ ⟨insOf x (.e id size k j), [], [], some t, .e id size k (j + foff), []⟩ ⟨(t, .e id size k (j + foff)) :: sl, hp⟩ :=
  OpR.q1 rfl ht hx (fun j hj => hj) fun β a w h1 => by
    have h3 := hf.h
    unfold fieldOf at h3
    split at h3
    · rename_i fs hu
      cases hfi : fs[i]? with
      | none => rw [hfi] at h3; cases h3
      | some f =>
        rw [hfi] at h3
        simp at h3
        simp [execOp, h1, SV.den, Instr.fieldAt, run_underlying hu, hfi, Instr.sureAddr, fieldPlace, h3.1, h3.2, run_sizeOf' hf.hn, hf.pos, add_lit, Nat.add_assoc]
    · cases h3
theorem OpR.len {T : TypeId} {x : Operand} {id n : Nat} {e sz : Nat} [hT : TySlice P T e sz] (hx : evS sl x = some (.a id n)) (ht : Nat.blt t nt = true) :
    OpR P nt ⟨sl, hp⟩ ⟨some t, .call { callee := .builtin .len, args := #[x], argTypes := #[T] }, ty, pos, af, g⟩ ⟨insOf x (.a id n), [], [], some t, .v (.int .i64 (n : Int)), []⟩ ⟨(t, .v (.int .i64 (n : Int))) :: sl, hp⟩ :=
  OpR.q1 rfl ht hx (fun j hj => by simp [SV.ids] at hj) fun β a w h1 => by
    simp [execOp, resolve, invoke, builtin, h1, SV.den, Builtin.len_, run_underlying hT.h, goInt]
theorem OpR.lenNil {T : TypeId} {x : Operand} {e sz : Nat} [hT : TySlice P T e sz] (hx : evS sl x = some (.v (.slice none 0 0))) (ht : Nat.blt t nt = true) :
    OpR P nt ⟨sl, hp⟩ ⟨some t, .call { callee := .builtin .len, args := #[x], argTypes := #[T] }, ty, pos, af, g⟩ ⟨insOf x (.v (.slice none 0 0)), [], [], some t, .v (.int .i64 0), []⟩ ⟨(t, .v (.int .i64 0)) :: sl, hp⟩ :=
  OpR.q1 rfl ht hx (fun j hj => by simp [SV.ids] at hj) fun β a w h1 => by
    simp [execOp, resolve, invoke, builtin, h1, SV.den, Builtin.len_, run_underlying hT.h, goInt]
theorem OpR.min2 {x y : Operand} {T T' : TypeId} {k : IntKind} {a b : Int} (hx : evS sl x = some (.v (.int k a))) (hy : evS sl y = some (.v (.int k b))) (ht : Nat.blt t nt = true) :
    OpR P nt ⟨sl, hp⟩ ⟨some t, .call { callee := .builtin .min, args := #[x, y], argTypes := #[T, T'] }, ty, pos, af, g⟩ ⟨insOf x (.v (.int k a)) ++ insOf y (.v (.int k b)), [], [], some t, .v (.int k (min a b)), []⟩ ⟨(t, .v (.int k (min a b))) :: sl, hp⟩ :=
  OpR.q2 rfl ht hx hy (fun j hj => by simp [SV.ids] at hj) fun β a' w h1 h2 => by
    have : (if b < a then b else a) = min a b := by split <;> omega
    simp [execOp, resolve, invoke, builtin, h1, h2, SV.den, Builtin.min_, Builtin.min2, this]
theorem OpR.max2 {x y : Operand} {T T' : TypeId} {k : IntKind} {a b : Int} (hx : evS sl x = some (.v (.int k a))) (hy : evS sl y = some (.v (.int k b))) (ht : Nat.blt t nt = true) :
    OpR P nt ⟨sl, hp⟩ ⟨some t, .call { callee := .builtin .max, args := #[x, y], argTypes := #[T, T'] }, ty, pos, af, g⟩ ⟨insOf x (.v (.int k a)) ++ insOf y (.v (.int k b)), [], [], some t, .v (.int k (max a b)), []⟩ ⟨(t, .v (.int k (max a b))) :: sl, hp⟩ :=
  OpR.q2 rfl ht hx hy (fun j hj => by simp [SV.ids] at hj) fun β a' w h1 h2 => by
    have : (if b > a then b else a) = max a b := by split <;> omega
    simp [execOp, resolve, invoke, builtin, h1, h2, SV.den, Builtin.max_, Builtin.max2, this]
def cmpVal (op : BinOp) (a b : Int) : Option Bool := match op with
  | .lss => some (decide (a < b))
  | .leq => some (decide (a ≤ b))
  | .gtr => some (decide (b < a))
  | .geq => some (decide (b ≤ a))
  | .eql => some (decide (a = b))
  | .neq => some (decide (a ≠ b))
  | _ => none
def arVal (op : BinOp) (a b : Int) : Option Int := match op with
  | .add => some (a + b)
  | .sub => some (a - b)
  | .mul => some (a * b)
  | _ => none
theorem OpR.cmp {op : BinOp} {T T' : TypeId} {x y : Operand} {k : IntKind} {a b : Int} {v : Bool} (hv : cmpVal op a b = some v) (hx : evS sl x = some (.v (.int k a))) (hy : evS sl y = some (.v (.int k b))) (ht : Nat.blt t nt = true) :
    OpR P nt ⟨sl, hp⟩ ⟨some t, .binOp op T x y T', ty, pos, af, g⟩ ⟨insOf x (.v (.int k a)) ++ insOf y (.v (.int k b)), [], [], some t, .v (.bool v), []⟩ ⟨(t, .v (.bool v)) :: sl, hp⟩ := by
  cases op <;> simp only [cmpVal, Option.some.injEq] at hv <;> first
    | (subst hv; first | exact OpR.lss hx hy ht | exact OpR.leq hx hy ht | exact OpR.gtr hx hy ht | exact OpR.geq hx hy ht | exact OpR.eql hx hy ht | exact OpR.neq hx hy ht)
    | cases hv
theorem OpR.ar64 {op : BinOp} {T T' : TypeId} {x y : Operand} {a b v : Int} (hv : arVal op a b = some v) (hx : evS sl x = some (.v (.int .i64 a))) (hy : evS sl y = some (.v (.int .i64 b))) (ht : Nat.blt t nt = true) (h1 : -9223372036854775808 ≤ v) (h2 : v ≤ 9223372036854775807) :
    OpR P nt ⟨sl, hp⟩ ⟨some t, .binOp op T x y T', ty, pos, af, g⟩ ⟨insOf x (.v (.int .i64 a)) ++ insOf y (.v (.int .i64 b)), [], [], some t, .v (.int .i64 v), []⟩ ⟨(t, .v (.int .i64 v)) :: sl, hp⟩ := by
  cases op <;> simp only [arVal, Option.some.injEq] at hv <;> first
    | (subst hv; first | exact OpR.add64 hx hy ht h1 h2 | exact OpR.sub64 hx hy ht h1 h2 | exact OpR.mul64 hx hy ht h1 h2)
    | cases hv
/-- Two values of any form, put together. -/
theorem OpR.binG {op : BinOp} {T T' : TypeId} {x y : Operand} {X Y : SV} {V : Value} (hx : evS sl x = some X) (hy : evS sl y = some Y) (ht : Nat.blt t nt = true)
    (h : ∀ (β : Nat → BI) (w : World), (do eqGuard op T x y (X.den β) (Y.den β); binOp op T (X.den β) (Y.den β) : Sem Value).run P w = .ok V w) :
    OpR P nt ⟨sl, hp⟩ ⟨some t, .binOp op T x y T', ty, pos, af, g⟩ ⟨insOf x X ++ insOf y Y, [], [], some t, .v V, []⟩ ⟨(t, .v V) :: sl, hp⟩ :=
  OpR.q2 rfl ht hx hy (fun _ h => by simp [SV.ids] at h) fun β a w h1 h2 => by
    have := h β w
    simp only [Sem.run_bind] at this
    simp only [execOp, h1, h2, Sem.run_bind]
    rw [this]
    rfl
end
end Go.Proofs.Ytiboffhdabeiiaa
