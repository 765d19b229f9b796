/-
  Deeds as elements of a row (chapter 01's law), and as they come in.
-/
import Derived.Test.YtpdjnjkliioneaaWdO
namespace Go.Proofs.Ytpdjnjkliioneaa
open Go Go.RowKit Go.ChangeShapes Go.WideShapes Go.Deep
structure PDeed where
  k : Int
  a : Int
  b : Int
def eDeed : Enc PDeed where
  size := 3
  enc d := [.int .u8 d.k, .int .i64 d.a, .int .i64 d.b]
  dec | [.int .u8 a, .int .i64 b, .int .i64 c] => some ⟨a, b, c⟩
      | _ => none
  zero := ⟨0, 0, 0⟩
  len _ := rfl
  pos := by decide
  one := by
    intro a u hu
    simp only [List.mem_cons, List.not_mem_nil, or_false] at hu
    rcases hu with rfl | rfl | rfl <;> rfl
  decL := by
    intro l a h
    split at h
    · injection h with h; subst h; rfl
    · cases h
def deedR (d : PDeed) : Prop := (0 ≤ d.k ∧ d.k < 256) ∧ i64R d.a ∧ i64R d.b
theorem reads_deed {P : Program} {W : World} {t : TypeId} {f0 f1 f2 : Field} (ht : P.underlying t = some (.struct #[f0, f1, f2])) (hn : P.cellsOf t = 3) (o0 : f0.offset = 0 ∧ P.cellsOf f0.type = 1) (o1 : f1.offset = 1 ∧ P.cellsOf f1.type = 1) (o2 : f2.offset = 2 ∧ P.cellsOf f2.type = 1)
    (h0 : P.underlying f0.type = some (.int .u8)) (h1 : P.underlying f1.type = some (.int .i64)) (h2 : P.underlying f2.type = some (.int .i64)) : Reads P W t fun cs => ∃ d : PDeed, cs = eDeed.enc d ∧ deedR d := by
  let R : Nat → List Value → Prop := fun i => match i with
    | 0 => fun cs => ∃ n : Int, cs = [.int .u8 n] ∧ IntKind.u8.min ≤ n ∧ n ≤ IntKind.u8.max
    | _ => fun cs => ∃ n : Int, cs = [.int .i64 n] ∧ i64R n
  refine (reads_struct (R := R) ht (fun i f hf => by
    match i, hf with
    | 0, hf => simp at hf; subst hf; exact reads_int h0
    | 1, hf => simp at hf; subst hf; exact reads_i64 h1
    | 2, hf => simp at hf; subst hf; exact reads_i64 h2)).mono fun cs ⟨hl, hh⟩ => ?_
  rw [hn] at hl
  match cs, hl with
  | [c0, c1, c2], _ =>
    obtain ⟨k, e0, r0, r0'⟩ := hh 0 f0 rfl
    obtain ⟨a, e1, r1⟩ := hh 1 f1 rfl
    obtain ⟨b, e2, r2⟩ := hh 2 f2 rfl
    rw [o0.1, o0.2] at e0
    rw [o1.1, o1.2] at e1
    rw [o2.1, o2.2] at e2
    simp at e0 e1 e2
    subst e0 e1 e2
    simp [IntKind.min, IntKind.max, IntKind.signed, IntKind.bits] at r0 r0'
    exact ⟨⟨k, a, b⟩, rfl, ⟨r0, by dsimp only; omega⟩, r1, r2⟩
theorem reads_deeds {P : Program} {W : World} {t e : TypeId} (ht : P.underlying t = some (.slice e)) (hc : P.cellsOf e = 3) (hb : P.bytesOf e = 24) (hel : Reads P W e fun cs => ∃ d : PDeed, cs = eDeed.enc d ∧ deedR d) :
    Reads P W t fun cs => ∃ (A : Option Addr) (cap : Nat) (l : List PDeed), cs = [.slice A l.length cap] ∧ Rd W (fun _ => True) eDeed.size A l.length (flat eDeed l) ∧ (∀ a ∈ l, deedR a) ∧ l.length * 24 ≤ reachBytes ∧ l.length ≤ cap ∧ cap ≤ maxLen :=
  reads_row eDeed ht hc hb hel
/-- What deeds make of a number. -/
def deedN (w : Int) (d : PDeed) : Int :=
  let V := ofW ⟨d.a, d.b % 18446744073709551616⟩
  if d.k % 6 = 0 then w + V else if d.k % 6 = 1 then w - V else if d.k % 6 = 2 then w + d.a * d.b else if d.k % 6 = 3 then d.a else if d.k % 6 = 4 then 0 - w else w + w
def deedsN (l : List PDeed) : Int := l.foldl deedN 0
theorem deedsN_snoc (l : List PDeed) (d : PDeed) : deedsN (l ++ [d]) = deedN (deedsN l) d := by simp [deedsN]
theorem wd_of {a l : Int} (h1 : -9223372036854775808 ≤ a) (h2 : a ≤ 9223372036854775807) (h3 : 0 ≤ l) (h4 : l < 18446744073709551616) : (toW (ofW ⟨a, l⟩)).hi = a ∧ (toW (ofW ⟨a, l⟩)).lo = l := by rw [toW_ofW ⟨h1, h2, h3, h4⟩]; exact ⟨rfl, rfl⟩
end Go.Proofs.Ytpdjnjkliioneaa
