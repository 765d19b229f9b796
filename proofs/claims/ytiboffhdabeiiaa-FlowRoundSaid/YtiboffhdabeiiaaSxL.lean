/-
  The symbolic state: elements of rows; the steps with their side conditions shown as they come. Plain lemmas over any program.
-/
import Derived.Test.YtiboffhdabeiiaaSxS
import Derived.KernelRfl
namespace Go.Proofs.Ytiboffhdabeiiaa
open Go Go.RowKit

section
variable {P : Program} {nt : Nat} {sl : List (Nat × SV)} {hp : List (Nat × Chunk)} {fx : List Nat} {k : List It} {K : Exit → St → Prop}

theorem OpR.loadG {t : Nat} {ty : TypeId} {pos : String} {af : Array Edge} {g : Option (Nat × Bool)} {T : TypeId} {x : Operand} {id size q j n : Nat} {α : Type} {c : Chunk} {E : Enc α} {l : List α} {u : Value} [hT : TyShape P T false n] (hx : evS sl x = some (.e id size q j)) (hc : getL hp id = some c) [hr : RowC c E l]
    (hs : E.size = size) (hq : q < l.length) (hu : (E.enc (l.getD q E.zero))[j]? = some u) (ht : Nat.blt t nt = true) :
    OpR P nt ⟨sl, hp⟩ ⟨some t, .load T x, ty, pos, af, g⟩ ⟨insOf x (.e id size q j), [(id, c)], [], some t, .v u, []⟩ ⟨(t, .v u) :: sl, hp⟩ :=
  OpR.loadE hx hc hs (by rw [List.getD_eq_getElem?_getD, List.getElem?_eq_getElem hq]; rfl) hu ht
theorem OpR.loadGA {t : Nat} {ty : TypeId} {pos : String} {af : Array Edge} {g : Option (Nat × Bool)} {T : TypeId} {x : Operand} {id size q j n : Nat} {α : Type} {c : Chunk} {E : Enc α} {l : List α} [hT : TyShape P T true n] (hx : evS sl x = some (.e id size q j)) (hc : getL hp id = some c) [hr : RowC c E l]
    (hs : E.size = size) (hq : q < l.length) (hu : Nat.ble (j + n) size = true) (ht : Nat.blt t nt = true) :
    OpR P nt ⟨sl, hp⟩ ⟨some t, .load T x, ty, pos, af, g⟩ ⟨insOf x (.e id size q j), [(id, c)], [], some t, .agg ((((E.enc (l.getD q E.zero)).drop j).take n).map SV.v), []⟩ ⟨(t, .agg ((((E.enc (l.getD q E.zero)).drop j).take n).map SV.v)) :: sl, hp⟩ :=
  OpR.loadEA hx hc hs (by rw [List.getD_eq_getElem?_getD, List.getElem?_eq_getElem hq]; rfl) hu ht

theorem OpR.storeG {ty : TypeId} {pos : String} {af : Array Edge} {g : Option (Nat × Bool)} {T : TypeId} {x y : Operand} {id size q j n : Nat} {b : Bool} {α : Type} {c : Chunk} {E : Enc α} {l : List α} {mk : List α → Chunk} {u' : α} {Y : SV} {vs : List Value} [hT : TyShape P T b n] (hx : evS sl x = some (.e id size q j)) (hy : evS sl y = some Y) (hc : getL hp id = some c) [hr : WRow c E l mk]
    (hs : E.size = size) (hq : q < l.length) (hY : Y.flatOk = true) (hv : valsL Y.cellsS = some vs) (hn : Nat.beq vs.length n = true) (hl : Nat.ble (j + n) size = true) (hd : E.dec ((E.enc (l.getD q E.zero)).take j ++ (vs ++ (E.enc (l.getD q E.zero)).drop (j + vs.length))) = some u') :
    OpR P nt ⟨sl, hp⟩ ⟨none, .store T x y, ty, pos, af, g⟩ ⟨insOf x (.e id size q j) ++ insOf y Y, [(id, c)], [], none, .v undef, [(id, mk (l.set q u'))]⟩ ⟨sl, (id, mk (l.set q u')) :: hp⟩ :=
  OpR.storeE hx hy hc hs (by rw [List.getD_eq_getElem?_getD, List.getElem?_eq_getElem hq]; rfl) hY hv hn hl hd
/-- A struct of two numbers. -/
class TyEq2 (P : Program) (T : TypeId) (k1 k2 : outParam IntKind) : Prop where
  e : ∀ (e1 e2 : Operand) (a b c d : Int) (w : World), (do eqGuard .eql T e1 e2 (.agg #[.int k1 a, .int k2 b]) (.agg #[.int k1 c, .int k2 d]); binOp .eql T (.agg #[.int k1 a, .int k2 b]) (.agg #[.int k1 c, .int k2 d]) : Sem Value).run P w = .ok (.bool (decide (a = c ∧ b = d))) w
  n : ∀ (e1 e2 : Operand) (a b c d : Int) (w : World), (do eqGuard .neq T e1 e2 (.agg #[.int k1 a, .int k2 b]) (.agg #[.int k1 c, .int k2 d]); binOp .neq T (.agg #[.int k1 a, .int k2 b]) (.agg #[.int k1 c, .int k2 d]) : Sem Value).run P w = .ok (.bool (decide (¬ (a = c ∧ b = d)))) w
section
variable {t : Nat} {ty : TypeId} {pos : String} {af : Array Edge} {g : Option (Nat × Bool)} {T T' : TypeId} {x y : Operand} {k1 k2 : IntKind} {a b c d : Int} [hT : TyEq2 P T k1 k2] (hx : evS sl x = some (.agg [.v (.int k1 a), .v (.int k2 b)])) (hy : evS sl y = some (.agg [.v (.int k1 c), .v (.int k2 d)])) (ht : Nat.blt t nt = true)
include hx hy ht hT
theorem OpR.eql2 : OpR P nt ⟨sl, hp⟩ ⟨some t, .binOp .eql T x y T', ty, pos, af, g⟩ ⟨insOf x (.agg [.v (.int k1 a), .v (.int k2 b)]) ++ insOf y (.agg [.v (.int k1 c), .v (.int k2 d)]), [], [], some t, .v (.bool (decide (a = c ∧ b = d))), []⟩ ⟨(t, .v (.bool (decide (a = c ∧ b = d)))) :: sl, hp⟩ :=
  OpR.binG hx hy ht fun β w => hT.e x y a b c d w
theorem OpR.neq2 : OpR P nt ⟨sl, hp⟩ ⟨some t, .binOp .neq T x y T', ty, pos, af, g⟩ ⟨insOf x (.agg [.v (.int k1 a), .v (.int k2 b)]) ++ insOf y (.agg [.v (.int k1 c), .v (.int k2 d)]), [], [], some t, .v (.bool (decide (¬ (a = c ∧ b = d)))), []⟩ ⟨(t, .v (.bool (decide (¬ (a = c ∧ b = d))))) :: sl, hp⟩ :=
  OpR.binG hx hy ht fun β w => hT.n x y a b c d w
end
theorem OpR.kLoad {t : Option Nat} {ty : TypeId} {pos : String} {af : Array Edge} {g : Option (Nat × Bool)} {a1 : TypeId} {a2 : Operand} {s s1 : St} {d : SD} (h : OpR P nt s ⟨t, .load a1 a2, ty, pos, af, g⟩ d s1) : OpR P nt s ⟨t, .load a1 a2, ty, pos, af, g⟩ d s1 := h
theorem OpR.kFA {t : Option Nat} {ty : TypeId} {pos : String} {af : Array Edge} {g : Option (Nat × Bool)} {a1 : TypeId} {a2 : Operand} {a3 : Nat} {s s1 : St} {d : SD} (h : OpR P nt s ⟨t, .fieldAddr a1 a2 a3, ty, pos, af, g⟩ d s1) : OpR P nt s ⟨t, .fieldAddr a1 a2 a3, ty, pos, af, g⟩ d s1 := h
theorem OpR.kIA {t : Option Nat} {ty : TypeId} {pos : String} {af : Array Edge} {g : Option (Nat × Bool)} {a1 : TypeId} {a2 a3 : Operand} {s s1 : St} {d : SD} (h : OpR P nt s ⟨t, .indexAddr a1 a2 a3, ty, pos, af, g⟩ d s1) : OpR P nt s ⟨t, .indexAddr a1 a2 a3, ty, pos, af, g⟩ d s1 := h
theorem OpR.kBin {t : Option Nat} {ty : TypeId} {pos : String} {af : Array Edge} {g : Option (Nat × Bool)} {a1 : BinOp} {a2 : TypeId} {a3 a4 : Operand} {a5 : TypeId} {s s1 : St} {d : SD} (h : OpR P nt s ⟨t, .binOp a1 a2 a3 a4 a5, ty, pos, af, g⟩ d s1) : OpR P nt s ⟨t, .binOp a1 a2 a3 a4 a5, ty, pos, af, g⟩ d s1 := h
theorem OpR.kCall {t : Option Nat} {ty : TypeId} {pos : String} {af : Array Edge} {g : Option (Nat × Bool)} {a1 : Call} {s s1 : St} {d : SD} (h : OpR P nt s ⟨t, .call a1, ty, pos, af, g⟩ d s1) : OpR P nt s ⟨t, .call a1, ty, pos, af, g⟩ d s1 := h
theorem OpR.kStore {t : Option Nat} {ty : TypeId} {pos : String} {af : Array Edge} {g : Option (Nat × Bool)} {a1 : TypeId} {a2 a3 : Operand} {s s1 : St} {d : SD} (h : OpR P nt s ⟨t, .store a1 a2 a3, ty, pos, af, g⟩ d s1) : OpR P nt s ⟨t, .store a1 a2 a3, ty, pos, af, g⟩ d s1 := h
theorem OpR.kMF {t : Option Nat} {ty : TypeId} {pos : String} {af : Array Edge} {g : Option (Nat × Bool)} {a1 : Fn} {a2 a3 : Array Operand} {s s1 : St} {d : SD} (h : OpR P nt s ⟨t, .makeFunc a1 a2 a3, ty, pos, af, g⟩ d s1) : OpR P nt s ⟨t, .makeFunc a1 a2 a3, ty, pos, af, g⟩ d s1 := h
theorem OpR.kPick {t : Option Nat} {ty : TypeId} {pos : String} {af : Array Edge} {g : Option (Nat × Bool)} {a1 a2 a3 : Operand} {s s1 : St} {d : SD} (h : OpR P nt s ⟨t, .pick a1 a2 a3, ty, pos, af, g⟩ d s1) : OpR P nt s ⟨t, .pick a1 a2 a3, ty, pos, af, g⟩ d s1 := h
theorem OpR.kMove {t : Option Nat} {ty : TypeId} {pos : String} {af : Array Edge} {g : Option (Nat × Bool)} {a1 : Operand} {s s1 : St} {d : SD} (h : OpR P nt s ⟨t, .move a1, ty, pos, af, g⟩ d s1) : OpR P nt s ⟨t, .move a1, ty, pos, af, g⟩ d s1 := h
theorem OpR.kAsg {t : Option Nat} {ty : TypeId} {pos : String} {af : Array Edge} {g : Option (Nat × Bool)} {a1 : Operand} {s s1 : St} {d : SD} (h : OpR P nt s ⟨t, .assign a1, ty, pos, af, g⟩ d s1) : OpR P nt s ⟨t, .assign a1, ty, pos, af, g⟩ d s1 := h
theorem OpR.kUn {t : Option Nat} {ty : TypeId} {pos : String} {af : Array Edge} {g : Option (Nat × Bool)} {a1 : UnOp} {a2 : TypeId} {a3 : Operand} {s s1 : St} {d : SD} (h : OpR P nt s ⟨t, .unOp a1 a2 a3, ty, pos, af, g⟩ d s1) : OpR P nt s ⟨t, .unOp a1 a2 a3, ty, pos, af, g⟩ d s1 := h
theorem OpR.kConv {t : Option Nat} {ty : TypeId} {pos : String} {af : Array Edge} {g : Option (Nat × Bool)} {a1 a2 : TypeId} {a3 : Operand} {s s1 : St} {d : SD} (h : OpR P nt s ⟨t, .convert a1 a2 a3, ty, pos, af, g⟩ d s1) : OpR P nt s ⟨t, .convert a1 a2 a3, ty, pos, af, g⟩ d s1 := h
theorem OpR.kExt {t : Option Nat} {ty : TypeId} {pos : String} {af : Array Edge} {g : Option (Nat × Bool)} {a1 : Operand} {a2 : Nat} {s s1 : St} {d : SD} (h : OpR P nt s ⟨t, .extract a1 a2, ty, pos, af, g⟩ d s1) : OpR P nt s ⟨t, .extract a1 a2, ty, pos, af, g⟩ d s1 := h
theorem OpR.kFld {t : Option Nat} {ty : TypeId} {pos : String} {af : Array Edge} {g : Option (Nat × Bool)} {a1 : TypeId} {a2 : Operand} {a3 : Nat} {s s1 : St} {d : SD} (h : OpR P nt s ⟨t, .field a1 a2 a3, ty, pos, af, g⟩ d s1) : OpR P nt s ⟨t, .field a1 a2 a3, ty, pos, af, g⟩ d s1 := h
theorem OpR.kBox {t : Option Nat} {ty : TypeId} {pos : String} {af : Array Edge} {g : Option (Nat × Bool)} {a1 : TypeId} {a2 : Operand} {s s1 : St} {d : SD} (h : OpR P nt s ⟨t, .box a1 a2, ty, pos, af, g⟩ d s1) : OpR P nt s ⟨t, .box a1 a2, ty, pos, af, g⟩ d s1 := h
theorem OpR.kAl {t : Option Nat} {ty : TypeId} {pos : String} {af : Array Edge} {g : Option (Nat × Bool)} {a1 : TypeId} {s s1 : St} {d : SD} (h : OpR P nt s ⟨t, .alloc a1, ty, pos, af, g⟩ d s1) : OpR P nt s ⟨t, .alloc a1, ty, pos, af, g⟩ d s1 := h
theorem OpR.kBld {t : Option Nat} {ty : TypeId} {pos : String} {af : Array Edge} {g : Option (Nat × Bool)} {a1 : TypeId} {a2 : Array (Nat × Operand)} {s s1 : St} {d : SD} (h : OpR P nt s ⟨t, .build a1 a2, ty, pos, af, g⟩ d s1) : OpR P nt s ⟨t, .build a1 a2, ty, pos, af, g⟩ d s1 := h
theorem OpR.kBS {t : Option Nat} {ty : TypeId} {pos : String} {af : Array Edge} {g : Option (Nat × Bool)} {a1 : TypeId} {a2 : Nat} {a3 : Array (Nat × Operand)} {s s1 : St} {d : SD} (h : OpR P nt s ⟨t, .buildSlice a1 a2 a3, ty, pos, af, g⟩ d s1) : OpR P nt s ⟨t, .buildSlice a1 a2 a3, ty, pos, af, g⟩ d s1 := h
theorem OpR.kSl {t : Option Nat} {ty : TypeId} {pos : String} {af : Array Edge} {g : Option (Nat × Bool)} {a1 : TypeId} {a2 : Operand} {a3 a4 a5 : Option Operand} {s s1 : St} {d : SD} (h : OpR P nt s ⟨t, .slice a1 a2 a3 a4 a5, ty, pos, af, g⟩ d s1) : OpR P nt s ⟨t, .slice a1 a2 a3 a4 a5, ty, pos, af, g⟩ d s1 := h
theorem OpR.kIx {t : Option Nat} {ty : TypeId} {pos : String} {af : Array Edge} {g : Option (Nat × Bool)} {a1 : TypeId} {a2 a3 : Operand} {s s1 : St} {d : SD} (h : OpR P nt s ⟨t, .index a1 a2 a3, ty, pos, af, g⟩ d s1) : OpR P nt s ⟨t, .index a1 a2 a3, ty, pos, af, g⟩ d s1 := h
theorem OpR.kRem {t : Option Nat} {ty : TypeId} {pos : String} {af : Array Edge} {g : Option (Nat × Bool)} {a2 : TypeId} {a3 a4 : Operand} {a5 : TypeId} {s s1 : St} {d : SD} (h : OpR P nt s ⟨t, .binOp .rem a2 a3 a4 a5, ty, pos, af, g⟩ d s1) : OpR P nt s ⟨t, .binOp .rem a2 a3 a4 a5, ty, pos, af, g⟩ d s1 := h
theorem OpR.kQuo {t : Option Nat} {ty : TypeId} {pos : String} {af : Array Edge} {g : Option (Nat × Bool)} {a2 : TypeId} {a3 a4 : Operand} {a5 : TypeId} {s s1 : St} {d : SD} (h : OpR P nt s ⟨t, .binOp .quo a2 a3 a4 a5, ty, pos, af, g⟩ d s1) : OpR P nt s ⟨t, .binOp .quo a2 a3 a4 a5, ty, pos, af, g⟩ d s1 := h
theorem OpR.kShr {t : Option Nat} {ty : TypeId} {pos : String} {af : Array Edge} {g : Option (Nat × Bool)} {a2 : TypeId} {a3 a4 : Operand} {a5 : TypeId} {s s1 : St} {d : SD} (h : OpR P nt s ⟨t, .binOp .shr a2 a3 a4 a5, ty, pos, af, g⟩ d s1) : OpR P nt s ⟨t, .binOp .shr a2 a3 a4 a5, ty, pos, af, g⟩ d s1 := h
theorem OpR.kShl {t : Option Nat} {ty : TypeId} {pos : String} {af : Array Edge} {g : Option (Nat × Bool)} {a2 : TypeId} {a3 a4 : Operand} {a5 : TypeId} {s s1 : St} {d : SD} (h : OpR P nt s ⟨t, .binOp .shl a2 a3 a4 a5, ty, pos, af, g⟩ d s1) : OpR P nt s ⟨t, .binOp .shl a2 a3 a4 a5, ty, pos, af, g⟩ d s1 := h
theorem OpR.kAnd {t : Option Nat} {ty : TypeId} {pos : String} {af : Array Edge} {g : Option (Nat × Bool)} {a2 : TypeId} {a3 a4 : Operand} {a5 : TypeId} {s s1 : St} {d : SD} (h : OpR P nt s ⟨t, .binOp .and a2 a3 a4 a5, ty, pos, af, g⟩ d s1) : OpR P nt s ⟨t, .binOp .and a2 a3 a4 a5, ty, pos, af, g⟩ d s1 := h
theorem OpR.kNC {t : Option Nat} {ty : TypeId} {pos : String} {af : Array Edge} {g : Option (Nat × Bool)} {a1 : Operand} {s s1 : St} {d : SD} (h : OpR P nt s ⟨t, .nilCheck a1, ty, pos, af, g⟩ d s1) : OpR P nt s ⟨t, .nilCheck a1, ty, pos, af, g⟩ d s1 := h
theorem OpR.kMS {t : Option Nat} {ty : TypeId} {pos : String} {af : Array Edge} {g : Option (Nat × Bool)} {a1 : TypeId} {a2 a3 : Operand} {s s1 : St} {d : SD} (h : OpR P nt s ⟨t, .makeSlice a1 a2 a3, ty, pos, af, g⟩ d s1) : OpR P nt s ⟨t, .makeSlice a1 a2 a3, ty, pos, af, g⟩ d s1 := h
/-- Tests that the context decides. -/
theorem DecT {p : Prop} [Decidable p] (h : p := by first | with_reducible assumption | omega) : decide p = true := decide_eq_true h
theorem DecF {p : Prop} [Decidable p] (h : ¬ p := by first | with_reducible assumption | omega) : decide p = false := decide_eq_false h
theorem BoT {b : Bool} (h : b = true := by first | with_reducible assumption | with_reducible rfl | (simp only [Bool.not_true, Bool.not_false, Option.isNone_none, Option.isNone_some]; done) | fail) : b = true := h
theorem BoF {b : Bool} (h : b = false := by first | with_reducible assumption | with_reducible rfl | (simp only [Bool.not_true, Bool.not_false, Option.isNone_none, Option.isNone_some]; done) | fail) : b = false := h
/-- One operation, by whatever law fits. -/
theorem OpA {o : Oper} {s s1 : St} {d : SD} (h : OpR P nt s o d s1 := by
      first
        | (apply OpR.kMove; exact OpR.move rfl rfl)
        | (apply OpR.kAsg; exact OpR.assign rfl rfl)
        | (apply OpR.kLoad
           first
             | exact OpR.loadP rfl rfl rfl rfl
             | exact OpR.loadE rfl rfl rfl (by with_reducible assumption) rfl rfl
             | exact OpR.loadG rfl rfl rfl (by omega) rfl rfl
             | exact OpR.loadPA rfl rfl rfl rfl
             | exact OpR.loadEA rfl rfl rfl (by with_reducible assumption) rfl rfl
             | exact OpR.loadGA rfl rfl rfl (by omega) rfl rfl)
        | (apply OpR.kFA
           first
             | exact OpR.fieldAddrP rfl rfl
             | exact OpR.fieldAddrE rfl rfl)
        | (apply OpR.kIA
           first
             | exact OpR.indexAddr rfl rfl rfl (by omega) (by omega) rfl
             | exact OpR.indexAddrI rfl rfl rfl (by omega) (by omega) (by omega) rfl
             | exact OpR.indexArrE rfl rfl (by omega) (by omega) rfl)
        | (apply OpR.kIx; exact OpR.strIndex (by with_reducible assumption) (by with_reducible assumption) rfl rfl rfl)
        | (apply OpR.kBin
           first
             | (apply OpR.kRem; exact OpR.remP rfl rfl rfl (by omega) (by omega))
             | (apply OpR.kQuo; exact OpR.quoP rfl rfl rfl (by omega) (by omega) (by simp [IntKind.max, IntKind.signed, IntKind.bits]; omega))
             | (apply OpR.kShr; exact OpR.shr rfl rfl rfl rfl rfl (by decide))
             | (apply OpR.kShl; exact OpR.shlU rfl rfl rfl rfl (by decide))
             | (apply OpR.kAnd
                first
                  | exact OpR.and32 (by omega) (by omega) rfl rfl rfl
                  | exact OpR.and0 (by omega) rfl rfl rfl
                  | exact OpR.and1 (by omega) (by omega) (by omega) rfl rfl rfl)
             | exact OpR.cmp rfl rfl rfl rfl
             | exact OpR.ar64 rfl rfl rfl rfl (by omega) (by omega)
             | exact OpR.arUI rfl rfl rfl rfl (by omega) (by omega)
             | exact OpR.arU rfl rfl rfl rfl
             | exact OpR.ar8 rfl rfl rfl rfl (by omega) (by omega)
             | exact OpR.eqlNil rfl rfl (by omega) rfl
             | exact OpR.neqNil rfl rfl (by omega) rfl
             | exact OpR.eqlNilV rfl rfl
             | exact OpR.eqlB rfl rfl rfl
             | exact OpR.neqB rfl rfl rfl
             | exact OpR.eql2 rfl rfl rfl
             | exact OpR.neq2 rfl rfl rfl
             | exact OpR.neqNilV rfl rfl)
        | (apply OpR.kCall
           first
             | exact OpR.len rfl rfl
             | exact OpR.lenNil rfl rfl
             | exact OpR.strLen rfl rfl
             | exact OpR.append rfl rfl rfl rfl rfl rfl (by omega) rfl rfl rfl
             | exact OpR.appendNil rfl rfl rfl rfl (by omega) rfl rfl rfl
             | exact OpR.appendE rfl rfl rfl rfl rfl
             | exact OpR.min2 rfl rfl rfl
             | exact OpR.max2 rfl rfl rfl)
        | (apply OpR.kStore
           first
             | exact OpR.storeP rfl rfl rfl rfl rfl rfl
             | exact OpR.storeE rfl rfl rfl rfl (by with_reducible assumption) rfl rfl rfl rfl rfl
             | exact OpR.storeG rfl rfl rfl rfl (by omega) rfl rfl rfl rfl rfl)
        | (apply OpR.kMF
           first
             | exact OpR.makeFunc0 rfl
             | exact OpR.makeFunc1 rfl rfl
             | exact OpR.makeFunc2 rfl rfl rfl)
        | (apply OpR.kPick
           first
             | exact OpR.pickT rfl DecT rfl rfl
             | exact OpR.pickF rfl DecF rfl rfl
             | exact OpR.pickT rfl BoT rfl rfl
             | exact OpR.pickF rfl BoF rfl rfl)
        | (apply OpR.kFld
           first
             | exact OpR.field1 rfl rfl rfl
             | exact OpR.fieldA rfl rfl)
        | (apply OpR.kExt; exact OpR.extract rfl rfl rfl)
        | (apply OpR.kUn
           first
             | exact OpR.not rfl rfl
             | exact OpR.neg64 rfl rfl (by omega) (by omega)
             | exact OpR.xorI (by omega) (by omega) rfl rfl
             | exact OpR.xorU (by omega) (by omega) rfl rfl)
        | (apply OpR.kBox; exact OpR.box rfl rfl rfl rfl)
        | (apply OpR.kConv
           first
             | exact OpR.conv64 rfl rfl (by omega) (by omega)
             | exact OpR.convUI rfl rfl (by omega) (by omega)
             | exact OpR.conv8 rfl rfl (by omega) (by omega)
             | exact OpR.conv16 rfl rfl (by omega) (by omega)
             | exact OpR.convStr rfl rfl (by first | rfl | (simp; omega)) rfl
             | exact OpR.convU rfl rfl)
        | (apply OpR.kSl
           first
             | exact OpR.sliceRo rfl rfl (.some rfl (by omega)) .none rfl (by omega) (by omega) (by first | rfl | omega) rfl rfl
             | exact OpR.sliceRo rfl rfl .none (.some rfl (by omega)) rfl (by omega) (by omega) (by first | rfl | omega) rfl rfl
             | exact OpR.sliceRo rfl rfl (.some rfl (by omega)) (.some rfl (by omega)) rfl (by omega) (by omega) (by first | rfl | omega) rfl rfl
             | exact OpR.slice rfl rfl (.some rfl (by omega)) .none rfl (by omega) (by omega) (by first | rfl | omega) rfl rfl
             | exact OpR.slice rfl rfl .none (.some rfl (by omega)) rfl (by omega) (by omega) (by first | rfl | omega) rfl rfl
             | exact OpR.slice rfl rfl (.some rfl (by omega)) (.some rfl (by omega)) rfl (by omega) (by omega) (by first | rfl | omega) rfl rfl
             | exact OpR.sliceArrE rfl rfl rfl rfl (by omega) (by omega) (by omega) rfl rfl
             | exact OpR.strSlice rfl (.some rfl (by omega)) .none (by omega) (by omega) rfl
             | exact OpR.strSlice rfl (.some rfl (by omega)) (.some rfl (by omega)) (by omega) (by omega) rfl
             | exact OpR.slice rfl rfl .none .none rfl (by omega) (by omega) rfl rfl rfl)
        | (apply OpR.kBld; exact OpR.build rfl rfl rfl)
        | (apply OpR.kBS; exact OpR.buildSlice rfl rfl rfl rfl rfl rfl rfl rfl rfl)
        | (apply OpR.kNC
           first
             | exact OpR.nilCheckP rfl rfl
             | exact OpR.nilCheckF rfl rfl)
        | (apply OpR.kAl; exact OpR.alloc rfl rfl rfl)
        | (apply OpR.kMS; exact OpR.make' rfl rfl (by omega) rfl rfl rfl)) : OpR P nt s o d s1 := h

/-- The rest of a region; whether it draws its order. -/
structure RX (P : Program) (nt : Nat) (fx : List Nat) (k : List It) (K : Exit → St → Prop) (draw : Bool) (l : List Oper) (rest : List Oper) (done : List Sh) (s : St) : Prop where
  run : ∃ ds s', Ex P nt l.toArray rest s ds s' ∧ (draw = true → chkGo 0 l (done ++ ds.map SD.sh) (ancsGo [] l) = true) ∧ TL P nt fx k s' K
theorem TL.pl {l : List Oper} {id : Nat} {s : St} (h : RX P nt fx k K false l l [] s) : TL P nt fx (.code (.region id l.toArray false) :: k) s K := by
  obtain ⟨ds, s', h1, _, h2⟩ := h.run
  exact TL.plain h1 h2
theorem TL.dr {l : List Oper} {id : Nat} {s : St} (h : RX P nt fx k K true l l [] s) (hm : P.follows .mixedOrders = true) : TL P nt fx (.code (.region id l.toArray true) :: k) s K := by
  obtain ⟨ds, s', h1, h2, h3⟩ := h.run
  exact TL.draw hm h1 (h2 rfl) h3
section
variable {draw : Bool} {l : List Oper} {o : Oper} {rest : List Oper} {s s1 : St} {d : SD} {done : List Sh} {j g t : Nat} {b w : Bool}
theorem RX.nil (h : TL P nt fx k s K) (hc : (!draw || chkGo 0 l done (ancsGo [] l)) = true) : RX P nt fx k K draw l [] done s := ⟨⟨[], s, .nil, fun hd => by subst hd; simpa using hc, h⟩⟩
theorem RX.x (h : OpR P nt s o d s1) (hg : o.guard = none) (k' : RX P nt fx k K draw l rest (done ++ [d.sh]) s1) : RX P nt fx k K draw l (o :: rest) done s := by
  obtain ⟨ds, s', h1, h2, h3⟩ := k'.run
  exact ⟨⟨d :: ds, s', .step hg h h1, fun hd => by simpa using h2 hd, h3⟩⟩
theorem RX.y (hg : o.guard = some (j, w)) (hs : (l.toArray[j]?).bind (·.dst) = some g) (hb : getL s.sl g = some (.v (.bool b))) (hw : b = w) (h : OpR P nt s o d s1) (k' : RX P nt fx k K draw l rest (done ++ [⟨d.dst, g :: d.ins.map (·.1), d.hin.map (·.1) ++ d.fr, d.wr.map (·.1)⟩]) s1) : RX P nt fx k K draw l (o :: rest) done s := by
  obtain ⟨ds, s', h1, h2, h3⟩ := k'.run
  exact ⟨⟨_, s', .yes hg hs hb hw h h1, fun hd => by simpa [SD.sh] using h2 hd, h3⟩⟩
theorem RX.n (hg : o.guard = some (j, w)) (hs : (l.toArray[j]?).bind (·.dst) = some g) (hb : getL sl g = some (.v (.bool b))) (hw : b = !w) (ht : o.dst = some t) (hn : Nat.blt t nt = true) (k' : RX P nt fx k K draw l rest (done ++ [⟨some t, [g], [], []⟩]) ⟨(t, .v undef) :: sl, hp⟩) : RX P nt fx k K draw l (o :: rest) done ⟨sl, hp⟩ := by
  obtain ⟨ds, s', h1, h2, h3⟩ := k'.run
  exact ⟨⟨_, s', .no hg hs hb hw ht hn h1, fun hd => by simpa [SD.sh] using h2 hd, h3⟩⟩
theorem RX.nU (hg : o.guard = some (j, w)) (hs : (l.toArray[j]?).bind (·.dst) = some g) (hb : getL sl g = some (.v undef)) (ht : o.dst = some t) (hn : Nat.blt t nt = true) (k' : RX P nt fx k K draw l rest (done ++ [⟨some t, [g], [], []⟩]) ⟨(t, .v undef) :: sl, hp⟩) : RX P nt fx k K draw l (o :: rest) done ⟨sl, hp⟩ := by
  obtain ⟨ds, s', h1, h2, h3⟩ := k'.run
  exact ⟨⟨_, s', .noU hg hs hb ht hn h1, fun hd => by simpa [SD.sh] using h2 hd, h3⟩⟩
theorem RX.nS (hg : o.guard = some (j, w)) (hs : (l.toArray[j]?).bind (·.dst) = some g) (hb : getL s.sl g = some (.v (.bool b))) (hw : b = !w) (ht : o.dst = none) (k' : RX P nt fx k K draw l rest (done ++ [⟨none, [g], [], []⟩]) s) : RX P nt fx k K draw l (o :: rest) done s := by
  obtain ⟨ds, s', h1, h2, h3⟩ := k'.run
  exact ⟨⟨_, s', .noS hg hs hb hw ht h1, fun hd => by simpa [SD.sh] using h2 hd, h3⟩⟩
theorem RX.kN {t : Option Nat} {op : Op} {ty : TypeId} {pos : String} {af : Array Edge} (h : RX P nt fx k K draw l (⟨t, op, ty, pos, af, none⟩ :: rest) done s) : RX P nt fx k K draw l (⟨t, op, ty, pos, af, none⟩ :: rest) done s := h
theorem RX.kG {t : Option Nat} {op : Op} {ty : TypeId} {pos : String} {af : Array Edge} {gw : Nat × Bool} (h : RX P nt fx k K draw l (⟨t, op, ty, pos, af, some gw⟩ :: rest) done s) : RX P nt fx k K draw l (⟨t, op, ty, pos, af, some gw⟩ :: rest) done s := h
theorem TL.kC {c : Operand} {x y : Code} (h : TL P nt fx (.code (.cond c x y) :: k) s K) : TL P nt fx (.code (.cond c x y) :: k) s K := h
end

/-! ### At the end -/
theorem ChLe.own {α : Type} {e : TypeId} {E : Enc α} {l l' : List α} (h : l' = l) : ChLe (.own e E l') (.own e E l) := by subst h; exact .refl _
theorem ChLe.mt {α : Type} {E : Enc α} {l l' : List α} (h : l' = l) : ChLe (.mt E l') (.mt E l) := by subst h; exact .refl _
section
variable {s : St} {pre post : List (Nat × Chunk)} {res : SV} {t : Nat}
theorem retK.v {u u' : Value} (e : u' = u) (h : getL s.sl t = some (.v u') := by rfl) (ck : (nodupB [] && fxB fx (fun i => i) s.hp && retB fx pre [] (.v u)) = true := by kernel_rfl) : retK P fx #[.tmp t] pre [] (.v u) .ret s := by
  subst e
  exact ⟨fun i => i, .one (.tmp h), trivial, ck⟩
theorem retK.one {X : SV} (ρ : Nat → Nat) (e : X = res.ren ρ) (hp : LeH ρ s.hp post) (h : getL s.sl t = some X := by rfl) (ck : (nodupB (post.map fun p => ρ p.1) && fxB fx ρ s.hp && retB fx pre post res) = true := by kernel_rfl) : retK P fx #[.tmp t] pre post res .ret s :=
  ⟨ρ, .one (.tmp (by rw [← e]; exact h)), hp, ck⟩
theorem retK.two {u : Nat} {X Y A B : SV} (ρ : Nat → Nat) (e : X = A.ren ρ) (e' : Y = B.ren ρ) (hp : LeH ρ s.hp post) (h : getL s.sl t = some X := by rfl) (h' : getL s.sl u = some Y := by rfl) (ck : (nodupB (post.map fun p => ρ p.1) && fxB fx ρ s.hp && retB fx pre post (.tup [A, B])) = true := by kernel_rfl) : retK P fx #[.tmp t, .tmp u] pre post (.tup [A, B]) .ret s :=
  ⟨ρ, by rw [show (SV.tup [A, B]).ren ρ = .tup [A.ren ρ, B.ren ρ] from rfl, ← e, ← e']; exact .two (.tmp h) (.tmp h'), hp, ck⟩
theorem retK.none (ρ : Nat → Nat) (hp : LeH ρ s.hp post) (ck : (nodupB (post.map fun p => ρ p.1) && fxB fx ρ s.hp && retB fx pre post (.tup [])) = true := by kernel_rfl) : retK P fx #[] pre post (.tup []) .ret s :=
  ⟨ρ, .none, hp, ck⟩
end
theorem vInt {k : IntKind} {a b : Int} (h : a = b) : Value.int k a = .int k b := by rw [h]
theorem svI {k : IntKind} {a b : Int} (h : a = b) : SV.v (.int k a) = .v (.int k b) := by rw [h]
theorem svB {a b : Bool} (h : a = b) : SV.v (.bool a) = .v (.bool b) := by rw [h]
theorem vBool {a b : Bool} (h : a = b) : Value.bool a = .bool b := by rw [h]
theorem dT {p : Prop} [Decidable p] (h : p) : decide p = true := decide_eq_true h
theorem dF {p : Prop} [Decidable p] (h : ¬ p) : decide p = false := decide_eq_false h

/-! ### Calls -/
def hinOf (σ : Nat → Nat) (hp pre : List (Nat × Chunk)) : List (Nat × Chunk) := pre.map fun p => (σ p.1, (getL hp (σ p.1)).getD .dead)
theorem LeH.match_ {σ : Nat → Nat} {hp : List (Nat × Chunk)} : ∀ {pre : List (Nat × Chunk)}, LeH σ hp pre → Match σ hp pre (hinOf σ hp pre)
  | [], _ => .nil
  | (i, c) :: l, h => by
    obtain ⟨⟨c', h1, h2⟩, h3⟩ := h
    have : hinOf σ hp ((i, c) :: l) = (σ i, c') :: hinOf σ hp l := by simp [hinOf, h1]
    rw [this]
    exact .cons h1 h2 h3.match_
theorem LeA {σ : Nat → Nat} {hp pre : List (Nat × Chunk)} (h : LeH σ hp pre := by repeat (first | exact trivial | refine ⟨⟨_, rfl, .refl _⟩, ?_⟩ | refine ⟨⟨_, rfl, .om⟩, ?_⟩ | refine ⟨⟨_, rfl, .ro⟩, ?_⟩)) : LeH σ hp pre := h
section
variable {t : Nat} {ty : TypeId} {pos : String} {af : Array Edge} {g : Option (Nat × Bool)} {fo : Operand} {f : FuncId} {caps : List SV} {xs : List Operand} {ats : Array TypeId} {Xs args : List SV} {pre post H : List (Nat × Chunk)} {res R : SV} {u : Value}
/-- A call that gives a plain value, and leaves all as it was. -/
theorem OpR.callV (hspec : Spec P f args pre (.v u) []) (σ : Nat → Nat) (hm : LeH σ hp pre) (hfo : evS sl fo = some (.fn f caps) := by rfl) (hxs : evL sl xs = some Xs := by rfl) (hargs : renL σ args = Xs ++ caps := by rfl)
    (hck : callB σ pre [] (.v u) = true := by kernel_rfl) (ht : Nat.blt t nt = true := by rfl) :
    OpR P nt ⟨sl, hp⟩ ⟨some t, .call { callee := .value fo, args := xs.toArray, argTypes := ats }, ty, pos, af, g⟩ ⟨insOf fo (.fn f caps) ++ insL xs Xs, hinOf σ hp pre, [], some t, .v u, []⟩ ⟨(t, .v u) :: sl, hp⟩ :=
  call_gen hspec σ hfo hxs hargs rfl rfl hm.match_ hck rfl ht
/-- A call, whatever it gives. -/
theorem OpR.callP (hspec : Spec P f args pre res post) (σ : Nat → Nat) (hm : LeH σ hp pre) (R : SV) (H : List (Nat × Chunk)) (hfo : evS sl fo = some (.fn f caps) := by rfl) (hxs : evL sl xs = some Xs := by rfl) (hargs : renL σ args = Xs ++ caps := by rfl) (hR : res.ren σ = R := by rfl) (hH : renH σ post = H := by rfl)
    (hck : callB σ pre post res = true := by kernel_rfl) (hfr : (newIds pre post).all (fun i => (getL hp (σ i)).isNone) = true := by kernel_rfl) (ht : Nat.blt t nt = true := by rfl) :
    OpR P nt ⟨sl, hp⟩ ⟨some t, .call { callee := .value fo, args := xs.toArray, argTypes := ats }, ty, pos, af, g⟩ ⟨insOf fo (.fn f caps) ++ insL xs Xs, hinOf σ hp pre, (newIds pre post).map σ, some t, R, H⟩ ⟨(t, R) :: sl, H ++ hp⟩ :=
  call_gen hspec σ hfo hxs hargs hR hH hm.match_ hck hfr ht
/-- A call that gives a value without names, and leaves all as it was. -/
theorem OpR.callA (hspec : Spec P f args pre res []) (σ : Nat → Nat) (hm : LeH σ hp pre) (hfo : evS sl fo = some (.fn f caps) := by rfl) (hxs : evL sl xs = some Xs := by rfl) (hargs : renL σ args = Xs ++ caps := by rfl) (hR : res.ren σ = res := by rfl)
    (hck : callB σ pre [] res = true := by kernel_rfl) (ht : Nat.blt t nt = true := by rfl) :
    OpR P nt ⟨sl, hp⟩ ⟨some t, .call { callee := .value fo, args := xs.toArray, argTypes := ats }, ty, pos, af, g⟩ ⟨insOf fo (.fn f caps) ++ insL xs Xs, hinOf σ hp pre, [], some t, res, []⟩ ⟨(t, res) :: sl, hp⟩ :=
  call_gen hspec σ hfo hxs hargs hR rfl hm.match_ hck rfl ht
/-- A call that gives nothing. -/
theorem OpR.callN (hspec : Spec P f args pre res post) (σ : Nat → Nat) (hm : LeH σ hp pre) (H : List (Nat × Chunk)) (hfo : evS sl fo = some (.fn f caps) := by rfl) (hxs : evL sl xs = some Xs := by rfl) (hargs : renL σ args = Xs ++ caps := by rfl) (hH : renH σ post = H := by rfl)
    (hck : callB σ pre post res = true := by kernel_rfl) (hfr : (newIds pre post).all (fun i => (getL hp (σ i)).isNone) = true := by kernel_rfl) :
    OpR P nt ⟨sl, hp⟩ ⟨none, .call { callee := .value fo, args := xs.toArray, argTypes := ats }, ty, pos, af, g⟩ ⟨insOf fo (.fn f caps) ++ insL xs Xs, hinOf σ hp pre, (newIds pre post).map σ, none, res.ren σ, H⟩ ⟨sl, H ++ hp⟩ :=
  call_gen hspec σ hfo hxs hargs rfl hH hm.match_ hck hfr rfl
end
theorem retK.vp {s : St} {pre post : List (Nat × Chunk)} {t : Nat} {u u' : Value} (ρ : Nat → Nat) (e : u' = u) (hp : LeH ρ s.hp post) (h : getL s.sl t = some (.v u') := by rfl) (ck : (nodupB (post.map fun p => ρ p.1) && fxB fx ρ s.hp && retB fx pre post (.v u)) = true := by kernel_rfl) : retK P fx #[.tmp t] pre post (.v u) .ret s := by
  subst e
  exact ⟨ρ, .one (.tmp h), hp, ck⟩

theorem LeSA {ρ : Nat → Nat} {sl' sl : List (Nat × SV)} (h : LeS ρ sl' sl := by repeat (first | exact trivial | refine ⟨rfl, ?_⟩)) : LeS ρ sl' sl := h
/-- Weaker, names as they are. -/
theorem LeI {s' s : St} (h1 : LeS (fun i => i) s'.sl s.sl := by exact LeSA) (h2 : LeH (fun i => i) s'.hp s.hp := by exact LeA) (ck : (closedB s && nodupB (s.hp.map fun p => p.1) && fxB fx (fun i => i) s.hp) = true := by kernel_rfl) : Le fx (fun i => i) s' s := ⟨h1, h2, ck⟩
theorem LeR {s' s : St} (ρ : Nat → Nat) (h1 : LeS ρ s'.sl s.sl := by exact LeSA) (h2 : LeH ρ s'.hp s.hp := by exact LeA) (ck : (closedB s && nodupB (s.hp.map fun p => ρ p.1) && fxB fx ρ s.hp) = true := by kernel_rfl) : Le fx ρ s' s := ⟨h1, h2, ck⟩
/-- A return of a struct that lies in memory. -/
theorem retK.ag {s : St} {pre post : List (Nat × Chunk)} {t id n : Nat} {T tt : TypeId} {cs : List SV} {res : SV} [hT : TyShape P T true n] (ρ : Nat → Nat) (e : SV.agg cs = res.ren ρ) (hp : LeH ρ s.hp post) (h : getL s.sl t = some (.p id 0) := by rfl) (hc : getL s.hp id = some (.cells tt cs) := by rfl) (hn : Nat.beq cs.length n = true := by rfl) (ck : (nodupB (post.map fun p => ρ p.1) && fxB fx ρ s.hp && retB fx pre post res) = true := by kernel_rfl) : retK P fx #[.cell t T] pre post res .ret s :=
  ⟨ρ, .one (by rw [← e]; exact .agg h hc hn), hp, ck⟩
end
set_option allowUnsafeReducibility true in
attribute [irreducible] loopK
end Go.Proofs.Ytiboffhdabeiiaa
