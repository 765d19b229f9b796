/-
  InstMany.
-/
import Derived.Test.YteepfhdndhepmaaInK
import Derived.Deep.RegionLaw
import Derived.Deep.OwnRows
namespace Go.Proofs.Yteepfhdndhepmaa
open Go.RowKit
attribute [local simp] below_drew_iff

def manyA (n k i : Nat) : PArc := ⟨((i % n : Nat) : Int), ((k % n : Nat) : Int), 0, 1, 0⟩
def manyL (n k m : Nat) : List PArc := (List.range m).map (manyA n k)
theorem manyL_len (n k m : Nat) : (manyL n k m).length = m := by simp [manyL]
theorem manyL_succ (n k m : Nat) : manyL n k (m + 1) = manyL n k m ++ [manyA n k m] := by simp [manyL, List.range_succ]
theorem many_span (n k m : Nat) : spanN (manyL n k m) = 0 := by
  unfold spanN manyL
  rw [List.countP_eq_zero]
  intro a ha
  simp only [List.mem_map] at ha
  obtain ⟨i, _, rfl⟩ := ha
  simp [manyA]
theorem many_ok {n k : Nat} (hn : 0 < n) : ∀ (l : List Nat), arcsBad n (l.map (manyA n k)) = 0
  | [] => rfl
  | i :: l => by
    have h1 : wrongN (manyA n k i) n = 0 := by
      have a1 := Nat.mod_lt i hn
      have a2 := Nat.mod_lt k hn
      unfold wrongN manyA nodeB inB
      rw [if_pos (by simp; omega), if_neg (by simp), if_pos (by simp)]
    show (if wrongN (manyA n k i) n = 0 then arcsBad n (l.map (manyA n k)) else _) = 0
    rw [if_pos h1]
    exact many_ok hn l
theorem zero_ok : ∀ n : Nat, supBad (List.replicate n 0) 0 = 0
  | 0 => rfl
  | n + 1 => by
    rw [List.replicate_succ]
    show (if inB 0 then supBad (List.replicate n 0) (0 + 0) else 24) = 0
    rw [if_pos (by decide)]
    exact zero_ok n
theorem many_right {n k m : Nat} (hn : 0 < n) : rightN (List.replicate n 0) (manyL n k m) = if n > 64 ∨ m > 256 then 20 else 0 := by
  unfold rightN
  rw [List.length_replicate, manyL_len]
  split
  · rfl
  · have := many_ok (k := k) hn (List.range m)
    rw [show manyL n k m = (List.range m).map (manyA n k) from rfl, this, zero_ok]
    rfl

theorem made64 (n : Nat) : (madeCells #[Value.int .i64 0] n).toList = intl (List.replicate n 0) := by
  rw [toList_madeCells_one]
  simp [intl]

set_option maxRecDepth 100000 in
set_option maxHeartbeats 3200000 in
theorem many_yes (a b k : Nat) (w : World) (ha : a < 65536) (hb : b < 65536) (hk : k < 256) :
    Calls Try.prog 4 #[.int .u16 (a : Int), .int .u16 (b : Int), .int .u8 (k : Int)] w fun e w' => e = .returned (.bool true) ∧ Below w.heap.size w w' := by
  obtain ⟨i0, hi0, hz0, hz1, hz2⟩ := info_parts arc_info
  obtain ⟨n, hn⟩ : ∃ n, 60 + a % 8 = n := ⟨_, rfl⟩
  obtain ⟨m, hm⟩ : ∃ m, 252 + b % 8 = m := ⟨_, rfl⟩
  have hn1 : 60 ≤ n ∧ n ≤ 67 := by omega
  have hm1 : 252 ≤ m ∧ m ≤ 259 := by omega
  have hni : (60 : Int) + (a : Int) % 8 = (n : Int) := by omega
  have hmi : (252 : Int) + (b : Int) % 8 = (m : Int) := by omega
  have hmk := run_make_row' (P := Try.prog) 23 2 (.int .i64 0) 8 Try.underlying23 int64_info rfl .i64 .i64 n (by omega) (by omega)
  clear hn hm
  go_enter Try.func4, Try.ntmps4
  go_wp2_with fail
  clear hmk hni hmi
  go_loopw [10] (fun u wr => ∃ (i : Nat) (v : Value), u = .int .i64 i ∧ i ≤ m ∧ wr.ownsRow (w.heap.size + 2) 36 5 v i (arcl (manyL n k i)) ∧ Blk wr (w.heap.size + 1) 26 #[.slice (some ⟨w.heap.size, 0, none⟩) n n, v] ∧ Blk wr w.heap.size 2 (madeCells #[.int .i64 0] n) ∧ Below w.heap.size w wr)
    (fun u _ => m - (intOf u).toNat)
  case atStart => exact ⟨0, .slice none 0 0, rfl, Nat.zero_le _, World.ownsRow_nil _ _ _ _, Blk.new_ (by simp), (Blk.new _ _ _).alloc _, two_new w _ _⟩
  case round =>
    obtain ⟨i, v, rfl, hi, hown, hb1, hb0, hbl⟩ := hrel
    obtain ⟨A5, a5, rfl⟩ := own_form hown
    have l1 := hb1.lt
    have hsz : w.heap.size + 2 ≤ wr.heap.size := by omega
    have c1 : wr.cell? ⟨w.heap.size + 1, 1, none⟩ = some (.slice A5 i a5) := hb1.cell 1
    have f1 : wr.frozen? ⟨w.heap.size + 1, 1, none⟩ = false := hb1.frozen 1
    by_cases hlt : i < m
    · have H := Lib.hid (And.intro hown (And.intro hb1 (And.intro hb0 hbl)))
      clear hb1 hb0 hbl
      have q1 : ((n : Int) == 0) = false := by simp; omega
      have q2 : ¬ (n : Int) = 0 := by omega
      have q3 : Int.tmod (i : Int) (n : Int) = ((i % n : Nat) : Int) := by rw [Int.tmod_eq_emod_of_nonneg (by omega)]; rfl
      have q4 : Int.tmod (k : Int) (n : Int) = ((k % n : Nat) : Int) := by rw [Int.tmod_eq_emod_of_nonneg (by omega)]; rfl
      have q5 : ¬ n = 0 := by omega
      have q6 : IntKind.i64.wrap (k : Int) = (k : Int) := IntWalk.i64_in _ (by omega)
      have h63 : i + 1 ≤ maxLen := by unfold maxLen; omega
      have hby : (i + 1) * 40 ≤ 140737488355328 := by omega
      go_wp2_with fail
      go_region_law ((
         refine step_append_rec (by rfl) _ _ _ (by rfl) (w.heap.size + 2) 36 i0 _ 5 40 Try.underlying24 hi0 hz0 hz1 hz2 rfl (by omega) (.slice A5 i a5) i (arcl (manyL n k i)) (by rfl) (by repeat' (first | exact hown | refine own_drew ?_ | refine World.ownsRow.alloc ?_ _)) wr.heap.size #[.int .i64 ((i : Int) % (n : Int)), .int .i64 ((k : Int) % (n : Int)), .int .i64 0, .int .i64 1, .int .i64 0] rfl (by rfl) (by repeat' (first | (refine Blk.new_ ?_; simp; done) | refine Blk.drew ?_ | refine Blk.alloc ?_ _)) (by simp [Value.oneCell']) h63 hby (by simp; omega) ?_
         intro g cap w9 own9 fr9 hat9 hlt9
         have hng : ∀ q, (Value.slice A5 i a5).ownBlock = some q → w.heap.size + 2 ≤ q := fun q e => (hown.lt q e).1
         have F9 := ((Fr.refl (fun q => w.heap.size + 2 ≤ q) wr).alloc _).drew.trans (fr9.mono fun q _ e => hng q e)
         have b9 := H.out.2.1.fr F9 (by omega)
         have z9 : w9.cell? ⟨w.heap.size + 1, 1, none⟩ = some (.slice A5 i a5) := b9.cell 1
         have y9 : w9.frozen? ⟨w.heap.size + 1, 1, none⟩ = false := b9.frozen 1))
      all_goals go_wp2
      all_goals go_roundw
      all_goals
        first
        | (refine ⟨i + 1, .slice (some ⟨g, 0, none⟩) (i + 1) cap, by go_num, hlt, ?_, ?_, ?_, ?_⟩
           · rw [manyL_succ, arcl_snoc]
             exact ownsRow_setCell_below own9 (by simp) _
           · exact b9.set_ 1 _
           · exact (H.out.2.2.1.fr F9 (by omega)).far (by simp) _
           · exact (H.out.2.2.2.trans (F9.below (B := w.heap.size) (fun q hq _ e => by omega) (by omega))).setCell (by simp) _)
        | (simp [intOf]; omega)
    · obtain rfl : i = m := by omega
      have hrd := own_read7 hown
      have hsup : Rd wr (fun _ => True) 1 (some ⟨w.heap.size, 0, none⟩) n (intl (List.replicate n 0)) := by
        rw [← made64]
        refine Rd.of_blk hb0 trivial ?_
        rw [← Array.length_toList, made64, intl_len, List.length_replicate]
        omega
      have hI : InstAt wr (fun _ => True) (.agg #[.slice (some ⟨w.heap.size, 0, none⟩) n n, .slice A5 i a5]) (List.replicate n 0) (manyL n k i) :=
        ⟨_, n, _, a5, by rw [List.length_replicate, manyL_len], by rw [List.length_replicate]; exact hsup, by rw [manyL_len]; exact hrd.mono (fun _ _ _ => trivial) (by omega)⟩
      have c0 : wr.cell? ⟨w.heap.size + 1, 0, none⟩ = some (.slice (some ⟨w.heap.size, 0, none⟩) n n) := hb1.cell 0
      have H := Lib.hid (And.intro hI (And.intro hb1 hbl))
      clear hrd hsup hI hb1 hbl hown hb0
      have hsp : (List.replicate n (0 : Int)).length + (manyL n k i).length + spanN (manyL n k i) = n + i := by rw [List.length_replicate, manyL_len, many_span, Nat.add_zero]
      have HS := Lib.hid hsp
      have iw : IntKind.i64.wrap ((n : Int) + (i : Int)) = (n : Int) + (i : Int) := IntWalk.i64_in _ (by omega)
      clear hsp
      obtain ⟨x, hx, hxr⟩ : ∃ x : Nat, x = (if n > 64 ∨ i > 256 then 20 else 0) ∧ rightN (List.replicate n 0) (manyL n k i) = x := ⟨_, rfl, many_right (by omega)⟩
      have HX := Lib.hid (And.intro hx hxr)
      clear hx hxr
      have ht1 : decide ((n : Int) > 64) = decide (n > 64) := by simp; omega
      have ht2 : decide ((i : Int) > 256) = decide (i > 256) := by simp; omega
      clear ht1 ht2
      go_upto_region 9 with fail
      go_cut [11, 46] (fun s11 s46 wx => wr = wx ∧ s11 = .int .u16 0 ∧ s46 = .bool (decide (n > 64) || decide (i > 256)))
      case first =>
        by_cases t1 : n > 64
        · have t2 : (n : Int) > 64 := by omega
          go_wp2
          all_goals go_meet
          all_goals exact ⟨rfl, rfl, by simp [t1]⟩
        · have t2 : ¬ (n : Int) > 64 := by omega
          by_cases t3 : i > 256
          · have t4 : (i : Int) > 256 := by omega
            go_wp2
            all_goals go_meet
            all_goals exact ⟨rfl, rfl, by simp [t1, t3]⟩
          · have t4 : ¬ (i : Int) > 256 := by omega
            go_wp2
            all_goals go_meet
            all_goals exact ⟨rfl, rfl, by simp [t1, t3]⟩
      case rest =>
        obtain ⟨rfl, rfl, rfl⟩ := hcut
        have hfin : ∀ z : Nat, z = x → ∀ w9 : World, Below wr.heap.size wr w9 → Calls Try.prog 11 #[.agg #[.slice (some ⟨w.heap.size, 0, none⟩) n n, .slice A5 i a5]] w9 fun e w' => e = .returned (.int .u16 (z : Int)) ∧ Below w9.heap.size w9 w' := by
          rintro z rfl w9 hb9
          exact right_at _ _ _ z _ HX.out.2 (H.out.1.below hb9) (by rw [List.length_replicate]; unfold maxLen; omega) (by rw [manyL_len]; unfold maxLen; omega)
        have HF := Lib.hid hfin
        clear hfin
        cases htest : (decide (n > 64) || decide (i > 256))
        · have hx : (0 : Nat) = x := by
            rw [HX.out.1, if_neg]
            intro h
            simp at htest
            omega
          have R := Lib.hid (HF.out 0 hx)
          clear HF hx
          go_wp2_with fail
          refine (known_yes _).mono ?_
          rintro e w1 ⟨rfl, hb1⟩
          have B1 := H.out.2.1.below hb1 l1
          have c0 : w1.cell? ⟨w.heap.size + 1, 0, none⟩ = some (.slice (some ⟨w.heap.size, 0, none⟩) n n) := B1.cell 0
          have c1 : w1.cell? ⟨w.heap.size + 1, 1, none⟩ = some (.slice A5 i a5) := B1.cell 1
          have H1 := Lib.hid hb1
          have hl1 := B1.lt
          have HB1 := Lib.hid B1
          clear B1 hb1
          go_wp2_with fail
          refine (R.out _ H1.out).mono ?_
          rintro e w2 ⟨rfl, hb2⟩
          have B2 := HB1.out.below hb2 hl1
          have c0 : w2.cell? ⟨w.heap.size + 1, 0, none⟩ = some (.slice (some ⟨w.heap.size, 0, none⟩) n n) := B2.cell 0
          have c1 : w2.cell? ⟨w.heap.size + 1, 1, none⟩ = some (.slice A5 i a5) := B2.cell 1
          have H2 := Lib.hid (below_step H1.out hb2 H1.out.size)
          clear B2 hb2
          go_wp2_with fail
          refine (span_at _ _ _ (n + i) _ HS.out (H.out.1.below H2.out) (by rw [List.length_replicate]; omega) (by rw [manyL_len]; omega)).mono ?_
          rintro e w3 ⟨rfl, hb3⟩
          have H3 := Lib.hid (below_step H2.out hb3 H2.out.size)
          clear hb3
          go_wp2_with fail
          go_ret
          exact ⟨rfl, H.out.2.2.trans (H3.out.mono H.out.2.2.size)⟩
        · have hx : (20 : Nat) = x := by
            rw [HX.out.1, if_pos]
            simp at htest
            omega
          have R := Lib.hid (HF.out 20 hx)
          clear HF hx
          go_wp2_with fail
          refine (known_yes _).mono ?_
          rintro e w1 ⟨rfl, hb1⟩
          have B1 := H.out.2.1.below hb1 l1
          have c0 : w1.cell? ⟨w.heap.size + 1, 0, none⟩ = some (.slice (some ⟨w.heap.size, 0, none⟩) n n) := B1.cell 0
          have c1 : w1.cell? ⟨w.heap.size + 1, 1, none⟩ = some (.slice A5 i a5) := B1.cell 1
          have H1 := Lib.hid hb1
          have hl1 := B1.lt
          have HB1 := Lib.hid B1
          clear B1 hb1
          go_wp2_with fail
          refine (R.out _ H1.out).mono ?_
          rintro e w2 ⟨rfl, hb2⟩
          have B2 := HB1.out.below hb2 hl1
          have c0 : w2.cell? ⟨w.heap.size + 1, 0, none⟩ = some (.slice (some ⟨w.heap.size, 0, none⟩) n n) := B2.cell 0
          have c1 : w2.cell? ⟨w.heap.size + 1, 1, none⟩ = some (.slice A5 i a5) := B2.cell 1
          have H2 := Lib.hid (below_step H1.out hb2 H1.out.size)
          clear B2 hb2
          go_wp2_with fail
          refine (span_at _ _ _ (n + i) _ HS.out (H.out.1.below H2.out) (by rw [List.length_replicate]; omega) (by rw [manyL_len]; omega)).mono ?_
          rintro e w3 ⟨rfl, hb3⟩
          have H3 := Lib.hid (below_step H2.out hb3 H2.out.size)
          clear hb3
          go_wp2_with fail
          go_ret
          exact ⟨rfl, H.out.2.2.trans (H3.out.mono H.out.2.2.size)⟩

theorem word_of {a : Int} (h : (Lit.int .u16 a).wf = true) : ∃ b : Nat, a = b ∧ b < 65536 := by
  have h1 : 0 ≤ a ∧ a ≤ 65535 := by simpa [Lit.wf, IntKind.min, IntKind.max, IntKind.signed, IntKind.bits] using h
  exact ⟨a.toNat, by omega, by omega⟩
end Go.Proofs.Yteepfhdndhepmaa
