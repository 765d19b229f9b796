/-
  inst: the chapter's example.
-/
import Derived.Test.YteepfhdndhepmaaInJ
namespace Go.Proofs.Yteepfhdndhepmaa
open Go.RowKit
attribute [local simp] below_drew_iff

theorem right_at {S : Nat → Prop} (v : Value) (s : List Int) (l : List PArc) (x : Nat) (w : World) (hx : rightN s l = x) (hv : InstAt w S v s l) (hs : s.length ≤ maxLen) (hl : l.length ≤ maxLen) :
    Calls Try.prog 11 #[v] w fun e w' => e = .returned (.int .u16 (x : Int)) ∧ Below w.heap.size w w' := by
  subst hx
  exact right_any v s l w hv hs hl
theorem span_at {S : Nat → Prop} (v : Value) (s : List Int) (l : List PArc) (x : Nat) (w : World) (hx : s.length + l.length + spanN l = x) (hv : InstAt w S v s l) (hs : s.length ≤ 1000000) (hl : l.length ≤ 1000000) :
    Calls Try.prog 13 #[v] w fun e w' => e = .returned (.int .i64 (x : Int)) ∧ Below w.heap.size w w' := by
  subst hx
  exact span_any v s l w hv hs hl
theorem same_at {S T : Nat → Prop} (va vb : Value) (s t : List Int) (l m : List PArc) (x : Bool) (w : World) (hx : (decide (s = t) && decide (l = m)) = x) (ha : InstAt w S va s l) (hb : InstAt w T vb t m) (h1 : s.length ≤ maxLen) (h2 : t.length ≤ maxLen) (h3 : l.length ≤ maxLen) (h4 : m.length ≤ maxLen) :
    Calls Try.prog 24 #[va, vb] w fun e w' => e = .returned (.bool x) ∧ Below w.heap.size w w' := by
  subst hx
  exact same_any va vb s t l m w ha hb h1 h2 h3 h4

theorem InstAt.lit {w : World} {g1 g2 n m : Nat} {cs ds : Array Value} {s : List Int} {l : List PArc} {t1 t2 : TypeId} (b1 : Blk w g1 t1 cs) (b2 : Blk w g2 t2 ds) (h1 : cs.toList = intl s) (h2 : ds.toList = arcl l) (hn : s.length = n) (hm : l.length = m) :
    InstAt w (fun q => q = g1 ∨ q = g2) (.agg #[.slice (some ⟨g1, 0, none⟩) n n, .slice (some ⟨g2, 0, none⟩) m m]) s l := by
  subst hn
  subst hm
  refine ⟨_, _, _, _, rfl, ?_, ?_⟩
  · rw [← h1]
    refine Rd.of_blk b1 (.inl rfl) ?_
    rw [← Array.length_toList, h1, intl_len]
    omega
  · rw [← h2]
    refine Rd.of_blk b2 (.inr rfl) ?_
    rw [← Array.length_toList, h2, arcl_len]

theorem field1 (A B : Option Addr) (n c m d : Nat) (w : World) : (Instr.field 26 (.agg #[.slice A n c, .slice B m d]) 1).run Try.prog w = .ok (.slice B m d) w := by
  have u := Try.underlying26
  have a1 := Try.isAgg24
  have z1 := Try.sizeOf24
  first
  | rfl
  | kernel_rfl
  | (go_simp; done)
  | (simp [Instr.field, u, a1, z1, go_sem])
theorem field0 (A B : Option Addr) (n c m d : Nat) (w : World) : (Instr.field 26 (.agg #[.slice A n c, .slice B m d]) 0).run Try.prog w = .ok (.slice A n c) w := by
  have u := Try.underlying26
  have a1 := Try.isAgg23
  have z1 := Try.sizeOf23
  first
  | rfl
  | kernel_rfl
  | (go_simp; done)
  | (simp [Instr.field, u, a1, z1, go_sem])

def arcK : PArc := ⟨0, 1, 0, 2, 0⟩
def arcN : PArc := ⟨0, 1, 0, -1, 0⟩

set_option maxRecDepth 100000 in
set_option maxHeartbeats 1600000 in
theorem known_yes (w : World) : Calls Try.prog 10 #[] w fun e w' => e = .returned (.bool true) ∧ Below w.heap.size w w' := by
  go_enter Try.func10, Try.ntmps10
  go_upto_region 3 with fail
  have K0 : ∃ w0 : World, w0 = (((((w.alloc (.cells #[.int .i64 1, .int .i64 (-1)] 2)).alloc (.cells #[.int .i64 0, .int .i64 1, .int .i64 0, .int .i64 2, .int .i64 0] 36)).alloc (.cells #[.slice (some ⟨w.heap.size, 0, none⟩) 2 2, .slice (some ⟨w.heap.size + 1, 0, none⟩) 1 1] 26)).alloc
      (.cells #[.int .i64 1, .int .i64 (-1)] 2)).alloc (.cells #[.int .i64 0, .int .i64 1, .int .i64 0, .int .i64 (-1), .int .i64 0] 36)).alloc (.cells #[.slice (some ⟨w.heap.size + 3, 0, none⟩) 2 2, .slice (some ⟨w.heap.size + 4, 0, none⟩) 1 1] 26) ∧
      Below w.heap.size w w0 ∧ Blk w0 w.heap.size 2 #[.int .i64 1, .int .i64 (-1)] ∧ Blk w0 (w.heap.size + 1) 36 #[.int .i64 0, .int .i64 1, .int .i64 0, .int .i64 2, .int .i64 0] ∧
      Blk w0 (w.heap.size + 2) 26 #[.slice (some ⟨w.heap.size, 0, none⟩) 2 2, .slice (some ⟨w.heap.size + 1, 0, none⟩) 1 1] ∧ Blk w0 (w.heap.size + 3) 2 #[.int .i64 1, .int .i64 (-1)] ∧
      Blk w0 (w.heap.size + 4) 36 #[.int .i64 0, .int .i64 1, .int .i64 0, .int .i64 (-1), .int .i64 0] ∧ Blk w0 (w.heap.size + 5) 26 #[.slice (some ⟨w.heap.size + 3, 0, none⟩) 2 2, .slice (some ⟨w.heap.size + 4, 0, none⟩) 1 1] := by
    refine ⟨_, rfl, ?_, ?_, ?_, ?_, ?_, ?_, ?_⟩
    · repeat' (first | exact Below.refl _ _ | (refine Below.alloc ?_ (by simp <;> omega) _))
    all_goals repeat' (first | (refine Blk.new_ ?_; simp; done) | refine Blk.alloc ?_ _)
  obtain ⟨w0, hw0, K1⟩ := K0
  rw [← hw0]
  have K := Lib.hid K1
  clear K1 hw0
  have i1 := InstAt.lit (s := [1, -1]) (l := [arcK]) (n := 2) (m := 1) K.out.2.1 K.out.2.2.1 rfl rfl rfl rfl
  have i2 := InstAt.lit (s := [1, -1]) (l := [arcN]) (n := 2) (m := 1) K.out.2.2.2.2.1 K.out.2.2.2.2.2.1 rfl rfl rfl rfl
  have HI := Lib.hid (And.intro i1 i2)
  clear i1 i2
  have c0 : w0.cell? ⟨w.heap.size + 2, 0, none⟩ = some (.slice (some ⟨w.heap.size, 0, none⟩) 2 2) := K.out.2.2.2.1.cell 0
  have c1 : w0.cell? ⟨w.heap.size + 2, 1, none⟩ = some (.slice (some ⟨w.heap.size + 1, 0, none⟩) 1 1) := K.out.2.2.2.1.cell 1
  have d0 : w0.cell? ⟨w.heap.size + 5, 0, none⟩ = some (.slice (some ⟨w.heap.size + 3, 0, none⟩) 2 2) := K.out.2.2.2.2.2.2.cell 0
  have d1 : w0.cell? ⟨w.heap.size + 5, 1, none⟩ = some (.slice (some ⟨w.heap.size + 4, 0, none⟩) 1 1) := K.out.2.2.2.2.2.2.cell 1
  have cells : ∀ w' : World, Below w0.heap.size w0 w' → w'.cell? ⟨w.heap.size + 2, 0, none⟩ = some (.slice (some ⟨w.heap.size, 0, none⟩) 2 2) ∧ w'.cell? ⟨w.heap.size + 2, 1, none⟩ = some (.slice (some ⟨w.heap.size + 1, 0, none⟩) 1 1) ∧
      w'.cell? ⟨w.heap.size + 5, 0, none⟩ = some (.slice (some ⟨w.heap.size + 3, 0, none⟩) 2 2) ∧ w'.cell? ⟨w.heap.size + 5, 1, none⟩ = some (.slice (some ⟨w.heap.size + 4, 0, none⟩) 1 1) := by
    intro w' hb
    have l1 := K.out.2.2.2.1.lt
    have l2 := K.out.2.2.2.2.2.2.lt
    exact ⟨(hb.cell l1).trans c0, (hb.cell l1).trans c1, (hb.cell l2).trans d0, (hb.cell l2).trans d1⟩
  have HC := Lib.hid cells
  clear cells
  go_wp2_with fail
  refine (right_at _ [1, -1] [arcK] 0 _ (by decide) HI.out.1 (by decide) (by decide)).mono ?_
  rintro e w1 ⟨rfl, hb1⟩
  obtain ⟨c0, c1, d0, d1⟩ := HC.out _ hb1
  have H1 := Lib.hid hb1
  clear hb1
  go_wp2_with fail
  refine (right_at _ [1, -1] [arcN] 22 _ (by decide) (HI.out.2.below H1.out) (by decide) (by decide)).mono ?_
  rintro e w2 ⟨rfl, hb2⟩
  have H2 := Lib.hid (below_step H1.out hb2 H1.out.size)
  obtain ⟨c0, c1, d0, d1⟩ := HC.out _ H2.out
  clear hb2
  go_wp2_with fail
  refine (span_at _ [1, -1] [arcK] 3 _ (by decide) (HI.out.1.below H2.out) (by decide) (by decide)).mono ?_
  rintro e w3 ⟨rfl, hb3⟩
  have H3 := Lib.hid (below_step H2.out hb3 H2.out.size)
  obtain ⟨c0, c1, d0, d1⟩ := HC.out _ H3.out
  clear hb3
  go_wp2_with fail
  refine (same_at _ _ [1, -1] [1, -1] [arcK] [arcK] true _ (by decide) (HI.out.1.below H3.out) (HI.out.1.below H3.out) (by decide) (by decide) (by decide) (by decide)).mono ?_
  rintro e w4 ⟨rfl, hb4⟩
  have H4 := Lib.hid (below_step H3.out hb4 H3.out.size)
  obtain ⟨c0, c1, d0, d1⟩ := HC.out _ H4.out
  clear hb4
  go_wp2_with fail
  refine (same_at _ _ [1, -1] [1, -1] [arcK] [arcN] false _ (by decide) (HI.out.1.below H4.out) (HI.out.2.below H4.out) (by decide) (by decide) (by decide) (by decide)).mono ?_
  rintro e w5 ⟨rfl, hb5⟩
  have H5 := Lib.hid (below_step H4.out hb5 H4.out.size)
  obtain ⟨c0, c1, d0, d1⟩ := HC.out _ H5.out
  clear hb5
  go_wp2_with fail
  have hbl6 : Below w0.heap.size w0 (w5.alloc (.cells #[.bool true] 4)) := H5.out.alloc H5.out.size _
  have bt : Blk (w5.alloc (.cells #[.bool true] 4)) w5.heap.size 4 #[.bool true] := Blk.new _ _ _
  have H6 := Lib.hid (And.intro hbl6 bt)
  clear hbl6 bt
  refine (without_any (T := fun _ => True) (U := fun _ => True) _ [1, -1] [arcK] _ none _ 0 [true] [] _ (HI.out.1.below H6.out.1) (Rd.of_blk (n := 1) H6.out.2 trivial rfl) (Rd.none_ _ _ _ _) (by decide) (by decide) (by decide) (by decide)).mono ?_
  rintro e w7 ⟨v7, rfl, ⟨A7, c7, B7, d7, rfl, hr7, hr7'⟩, hb7⟩
  have hz : (withoutL [1, -1] [arcK] [true] []).length = 0 := by decide
  rw [hz]
  have H7 := Lib.hid (below_step H6.out.1 hb7 H6.out.1.size)
  clear hr7 hr7' hb7 hz
  generalize withoutS [1, -1] [true] = s7 at *
  have hf := field1 A7 B7 s7.length c7 0 d7
  go_wp2_with fail
  go_ret
  exact ⟨rfl, K.out.1.trans (H7.out.mono K.out.1.size)⟩
end Go.Proofs.Yteepfhdndhepmaa
