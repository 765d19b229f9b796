/-
  unite's reference: New, Join.
-/
import Derived.Test.YtogbdilbbofdiaaUnK
namespace Go.Proofs.Ytogbdilbbofdiaa
open Go.RowKit

def RefNewPost (w : World) (L : List Nat) (e : Ending) (w' : World) : Prop := ∃ v, e = .returned v ∧ RefAt w' (fun k => w.heap.size ≤ k) v L ∧ Below w.heap.size w w'

theorem own_read {w : World} {base n c size : Nat} {e : TypeId} {A : Option Addr} {xs : List Value} (h : w.ownsRow base e size (.slice A n c) n xs) : Rd w (fun k => base ≤ k ∧ k < w.heap.size) size A n xs := by
  obtain ⟨A', c', e', h1⟩ := Rd.of_own h
  injection e' with e1 _ _
  subst e1
  exact h1

set_option maxRecDepth 100000 in
set_option maxHeartbeats 1600000 in
theorem ref_new (a : Int) (n : Nat) (w : World) (hn : n ≤ 1000) (ha : max 0 (min a 1000) = n) :
    Calls Try.prog 20 #[.int .i64 a] w (RefNewPost w (List.range n)) := by
  obtain ⟨i0, hi0, hz0, hz1, hz2⟩ := info_parts int_info
  go_enter Try.func20, Try.ntmps20
  go_wp2
  go_loopw [4] (fun u wr => ∃ (k : Nat) (v : Value), k ≤ n ∧ u = .int .i64 k ∧ wr.ownsRow (w.heap.size + 2) 3 1 v k (natl (List.range k)) ∧ Blk wr (w.heap.size + 1) 45 #[v] ∧ Blk wr w.heap.size 45 #[.slice none 0 0] ∧ Below w.heap.size w wr)
    (fun u _ => n - (intOf u).toNat)
  case atStart =>
    exact ⟨0, _, Nat.zero_le _, rfl, World.ownsRow_nil _ _ _ _, Blk.new_ (by simp), (Blk.new _ _ _).alloc _, (((Below.refl _ _).alloc (Nat.le_refl _) _).alloc (by simp) _)⟩
  case round =>
    obtain ⟨k, v, hkn, rfl, hown, hb1, hb0, hbl⟩ := hrel
    obtain ⟨A, c, rfl⟩ := own_form hown
    have hsz : w.heap.size + 2 ≤ wr.heap.size := by have := hb1.lt; omega
    have c1 : wr.cell? ⟨w.heap.size + 1, 0, none⟩ = some (.slice A k c) := hb1.cell 0
    have c0 : wr.cell? ⟨w.heap.size, 0, none⟩ = some (.slice none 0 0) := hb0.cell 0
    have f0 : wr.frozen? ⟨w.heap.size, 0, none⟩ = false := hb0.frozen 0
    have H := Lib.hid (And.intro hown (And.intro hb1 (And.intro hb0 hbl)))
    clear hown hb1 hb0 hbl
    by_cases hlt : k < n
    · have g1 : (k : Int) < a := by omega
      have g2 : (k : Int) < 1000 := by omega
      go_wp2_with (first
        | (at_builtin
           refine wpList_append_one rfl (.tmp 16) (.tmp 18) 28 rfl (w.heap.size + 2) 3 i0 _ 8 Try.underlying28 hi0 hz0 hz1 hz2 rfl (.slice A k c) k _ rfl H.out.1 wr.heap.size rfl (.int .i64 (k : Int)) rfl rfl (by unfold maxLen; omega) (by omega) hsz ?_
           intro g cap w2 own2 fr2 hat2 hlt2
           have hng : ∀ q, (Value.slice A k c).ownBlock = some q → w.heap.size + 2 ≤ q := fun q e => (H.out.1.lt q e).1
           have b1 := H.out.2.1.fr fr2 (fun e => by have := hng _ e; omega)
           have c2 : w2.cell? ⟨w.heap.size + 1, 0, none⟩ = some (.slice A k c) := b1.cell 0
           have f1 : w2.frozen? ⟨w.heap.size + 1, 0, none⟩ = false := b1.frozen 0
           have b0 := H.out.2.2.1.fr fr2 (fun e => by have := hng _ e; omega)
           have hbl2 := H.out.2.2.2.trans (fr2.below (B := w.heap.size) (fun q hq _ e => by have := hng _ e; omega) (by omega))
           have H2 := Lib.hid (And.intro own2 (And.intro b1 (And.intro b0 hbl2)))
           clear own2 b1 b0 hbl2 fr2))
      obtain ⟨own2, b1, b0, hbl2⟩ := H2.out
      go_roundw
      case rel =>
        refine ⟨k + 1, .slice (some ⟨g, 0, none⟩) (k + 1) cap, hlt, by go_num, ?_, ?_, b0.far (by simp) _, hbl2.setCell (by simp) _⟩
        · rw [List.range_succ, natl_snoc]
          exact ownsRow_setCell_below own2 (by simp) _
        · exact (b1.set_ 0 _)
      case measure => simp [intOf]; omega
    · obtain rfl : k = n := by omega
      by_cases g1 : (k : Int) < a
      · have g2 : ¬ (k : Int) < 1000 := by omega
        go_wp2
        try simp only [Exit.inBlock, Exit.then]
        refine bodyPost_ret (v := .agg #[.slice A k c]) (by simp [results, Try.results20, go_sem, *]) rfl ⟨_, rfl, ⟨A, c, by simp, ?_⟩, ?_⟩
        · have h1 := ((own_read H.out.1).setCell (p := ⟨w.heap.size, 0, none⟩) (fun hh => by simp at hh; omega) (.slice A k c)).mono (T := fun q => w.heap.size ≤ q) (fun q _ hq => by omega) (by omega)
          simpa using h1
        · exact H.out.2.2.2.setCell (by simp) _
      · go_wp2
        try simp only [Exit.inBlock, Exit.then]
        refine bodyPost_ret (v := .agg #[.slice A k c]) (by simp [results, Try.results20, go_sem, *]) rfl ⟨_, rfl, ⟨A, c, by simp, ?_⟩, ?_⟩
        · have h1 := ((own_read H.out.1).setCell (p := ⟨w.heap.size, 0, none⟩) (fun hh => by simp at hh; omega) (.slice A k c)).mono (T := fun q => w.heap.size ≤ q) (fun q _ hq => by omega) (by omega)
          simpa using h1
        · exact H.out.2.2.2.setCell (by simp) _

/-! ### Join -/
def RefJoinPost (S : Nat → Prop) (w : World) (L : List Nat) (is : Bool) (e : Ending) (w' : World) : Prop := ∃ v, e = .returned (.tuple #[v, .bool is]) ∧ RefAt w' (fun k => S k ∨ w.heap.size ≤ k) v L ∧ Below w.heap.size w w'

theorem join_cases (L : List Nat) (a b : Int) :
    (leastI L a < 0 ∧ joinL L a b = L ∧ joinB L a b = false) ∨ (0 ≤ leastI L a ∧ leastI L b < 0 ∧ joinL L a b = L ∧ joinB L a b = false) ∨
    (0 ≤ leastI L a ∧ 0 ≤ leastI L b ∧ leastI L a = leastI L b ∧ joinL L a b = L ∧ joinB L a b = false) ∨
    (∃ x y : Nat, leastI L a = x ∧ leastI L b = y ∧ x ≠ y ∧ joinL L a b = L.map (mix x y) ∧ joinB L a b = true) := by
  cases ha : of_ L a with
  | none => exact .inl ⟨by simp [leastI, ha], (joinB_left ha).2, (joinB_left ha).1⟩
  | some x =>
    cases hb : of_ L b with
    | none => exact .inr (.inl ⟨by simp [leastI, ha], by simp [leastI, hb], (joinB_right hb).2, (joinB_right hb).1⟩)
    | some y =>
      by_cases e : x = y
      · subst e
        exact .inr (.inr (.inl ⟨by simp [leastI, ha], by simp [leastI, hb], by simp [leastI, ha, hb], (joinB_same ha hb).2, (joinB_same ha hb).1⟩))
      · exact .inr (.inr (.inr ⟨x, y, by simp [leastI, ha], by simp [leastI, hb], e, (joinB_two ha hb e).2, (joinB_two ha hb e).1⟩))

set_option maxRecDepth 100000 in
set_option maxHeartbeats 1600000 in
theorem ref_join {S : Nat → Prop} (A : Option Addr) (c : Nat) (L : List Nat) (a b : Int) (w : World) (hr : Rd w S 1 A L.length (natl L)) (hn : L.length ≤ 100000) :
    Calls Try.prog 21 #[.agg #[.slice A L.length c], .int .i64 a, .int .i64 b] w (RefJoinPost S w (joinL L a b) (joinB L a b)) := by
  obtain ⟨i0, hi0, hz0, hz1, hz2⟩ := info_parts int_info
  have HR := Lib.hid hr
  clear hr
  go_enter Try.func21, Try.ntmps21
  go_wp2_with fail
  have F0 : Below w.heap.size w ((w.alloc (.cells #[.slice A L.length c] 45)).alloc (.cells #[.slice none 0 0] 45)) := ((Below.refl _ _).alloc (Nat.le_refl _) _).alloc (by simp) _
  have B0 : Blk ((w.alloc (.cells #[.slice A L.length c] 45)).alloc (.cells #[.slice none 0 0] 45)) w.heap.size 45 #[.slice A L.length c] := (Blk.new _ _ _).alloc _
  have B1 : Blk ((w.alloc (.cells #[.slice A L.length c] 45)).alloc (.cells #[.slice none 0 0] 45)) (w.heap.size + 1) 45 #[.slice none 0 0] := Blk.new_ (by simp)
  have H0 := Lib.hid (And.intro F0 (And.intro B0 B1))
  clear F0 B0 B1
  refine (ref_least A c L a _ (HR.out.below H0.out.1) hn).mono ?_
  rintro e w1 ⟨rfl, hb1⟩
  have H1 := Lib.hid (And.intro (below_step H0.out.1 hb1 (by simp; omega)) (And.intro (H0.out.2.1.below hb1 (by simp; omega)) (H0.out.2.2.below hb1 (by simp))))
  have c0 : w1.cell? ⟨w.heap.size, 0, none⟩ = some (.slice A L.length c) := H1.out.2.1.cell 0
  clear hb1
  go_wp2_with fail
  refine (ref_least A c L b _ (HR.out.below H1.out.1) hn).mono ?_
  rintro e w2 ⟨rfl, hb2⟩
  have l1 := H1.out.2.1.lt
  have l2 := H1.out.2.2.lt
  have H2 := Lib.hid (And.intro (below_step H1.out.1 hb2 (by omega)) (And.intro (H1.out.2.1.below hb2 l1) (H1.out.2.2.below hb2 l2)))
  have c0 : w2.cell? ⟨w.heap.size, 0, none⟩ = some (.slice A L.length c) := H2.out.2.1.cell 0
  have l1 := H2.out.2.1.lt
  have l2 := H2.out.2.2.lt
  have c1 : w2.cell? ⟨w.heap.size + 1, 0, none⟩ = some (.slice none 0 0) := H2.out.2.2.cell 0
  have f1 : w2.frozen? ⟨w.heap.size + 1, 0, none⟩ = false := H2.out.2.2.frozen 0
  clear hb2 H0 H1
  have HC := Lib.hid (join_cases L a b)
  generalize leastI L a = p at *
  generalize leastI L b = q at *
  have fin : ∀ (w9 : World), w9 = w2.setCell ⟨w.heap.size + 1, 0, none⟩ (.slice A L.length c) → joinL L a b = L → joinB L a b = false → RefJoinPost S w (joinL L a b) (joinB L a b) (.returned (.tuple #[.agg #[.slice A L.length c], .bool false])) w9 := by
    rintro w9 rfl e1 e2
    rw [e1, e2]
    refine ⟨_, rfl, ⟨A, c, rfl, ?_⟩, H2.out.1.setCell (by simp) _⟩
    exact (HR.out.below (H2.out.1.setCell (by simp) _)).mono (fun _ _ h => .inl h) (by omega)
  have FIN := Lib.hid fin
  clear fin
  rcases HC.out with ⟨h1, h2, h3⟩ | ⟨h1, h1', h2, h3⟩ | ⟨h1, h1', h1'', h2, h3⟩ | ⟨x, y, rfl, rfl, h1, h2, h3⟩
  · have hf := Lib.hid (FIN.out _ rfl h2 h3)
    clear h2 h3
    go_wp2
    refine bodyPost_ret (v := .tuple #[.agg #[.slice A L.length c], .bool false]) (by simp [results, Try.results21, go_sem, *]) rfl hf.out
  · have hf := Lib.hid (FIN.out _ rfl h2 h3)
    clear h2 h3
    go_wp2
    refine bodyPost_ret (v := .tuple #[.agg #[.slice A L.length c], .bool false]) (by simp [results, Try.results21, go_sem, *]) rfl hf.out
  · have hf := Lib.hid (FIN.out _ rfl h2 h3)
    clear h2 h3
    subst h1''
    go_wp2
    refine bodyPost_ret (v := .tuple #[.agg #[.slice A L.length c], .bool false]) (by simp [results, Try.results21, go_sem, *]) rfl hf.out
  · clear HC FIN
    have h0 : ((x : Int) == (y : Int)) = false := by simp; omega
    generalize hL' : L.map (mix x y) = L'
    have hlen : L'.length = L.length := by rw [← hL', List.length_map]
    rw [hL'] at h2
    have HJ := Lib.hid (And.intro h2 h3)
    have HL := Lib.hid (And.intro hL' hlen)
    clear hL' hlen h2 h3
    go_wp2
    have own0 : ((w2.alloc (.cells #[.slice none 0 0] 45))).heap.size = w2.heap.size + 1 := by simp
    go_loopw [11, 12] (fun u _ wr => ∃ (k : Nat) (v : Value), k ≤ L.length ∧ u = .int .i64 k ∧ wr.ownsRow (w2.heap.size + 1) 3 1 v k (natl (L'.take k)) ∧ Blk wr w2.heap.size 45 #[v] ∧ Below w2.heap.size w2 wr)
      (fun u _ _ => L.length - (intOf u).toNat)
    case atStart =>
      refine ⟨0, _, Nat.zero_le _, rfl, World.ownsRow_nil _ _ _ _, Blk.new_ (by simp), (Below.refl _ _).alloc (Nat.le_refl _) _⟩
    case round =>
      obtain ⟨k, v, hkn, rfl, hown, hb, hbl⟩ := hrel
      obtain ⟨A1, c1, rfl⟩ := own_form hown
      have c0 : wr.cell? ⟨w.heap.size, 0, none⟩ = some (.slice A L.length c) := (H2.out.2.1.below hbl l1).cell 0
      have d0 : wr.cell? ⟨w2.heap.size, 0, none⟩ = some (.slice A1 k c1) := hb.cell 0
      have hsz : w2.heap.size + 1 ≤ wr.heap.size := hb.lt
      by_cases hlt : k < L.length
      · obtain ⟨l, hl⟩ : ∃ l, L[k]? = some l := ⟨_, List.getElem?_eq_getElem hlt⟩
        have hr := HR.out.below (H2.out.1.trans (hbl.mono (by omega)))
        obtain ⟨B, O, rfl, _, hc⟩ := hr.addr (by omega)
        have e0 : wr.cell? ⟨B, O + k, none⟩ = some (.int .i64 (l : Int)) := hc k _ (natl_at hl)
        have H := Lib.hid (And.intro hown (And.intro hb (And.intro hbl hl)))
        clear hown hb hbl hl hr hc
        generalize hLn : L.length = n at *
        have hbool : (((l : Int) == (x : Int)) = true ∧ mix x y l = min x y) ∨ (((l : Int) == (x : Int)) = false ∧ ((l : Int) == (y : Int)) = true ∧ mix x y l = min x y) ∨ (((l : Int) == (x : Int)) = false ∧ ((l : Int) == (y : Int)) = false ∧ mix x y l = l) := by
          by_cases e1 : l = x
          · exact .inl ⟨by simp [e1], mix_in (.inl e1)⟩
          · by_cases e2 : l = y
            · exact .inr (.inl ⟨by simp; omega, by simp [e2], mix_in (.inr e2)⟩)
            · exact .inr (.inr ⟨by simp; omega, by simp; omega, mix_out (by omega)⟩)
        have h63 : k + 1 ≤ maxLen := by unfold maxLen; omega
        have hby : (k + 1) * 8 ≤ 140737488355328 := by omega
        have hxl : ((k : Int) < (n : Int)) := by omega
        rcases hbool with ⟨t1, hm⟩ | ⟨t1, t2, hm⟩ | ⟨t1, t2, hm⟩
        all_goals
          have HM := Lib.hid hm
          clear hm
          go_wp2_with (first
            | (at_builtin
               refine wpList_append_one rfl (.tmp 56) (.tmp 58) 28 rfl (w2.heap.size + 1) 3 i0 _ 8 Try.underlying28 hi0 hz0 hz1 hz2 rfl (.slice A1 k c1) k _ rfl H.out.1 wr.heap.size rfl _ rfl rfl h63 hby hsz ?_
               intro g cap w3 own3 fr3 hat3 hlt3
               have hng : ∀ q, (Value.slice A1 k c1).ownBlock = some q → w2.heap.size + 1 ≤ q := fun q e => (H.out.1.lt q e).1
               have b3 := H.out.2.1.fr fr3 (fun e => by have := hng _ e; omega)
               have c2 : w3.cell? ⟨w2.heap.size, 0, none⟩ = some (.slice A1 k c1) := b3.cell 0
               have f2 : w3.frozen? ⟨w2.heap.size, 0, none⟩ = false := b3.frozen 0
               have hbl3 := H.out.2.2.1.trans (fr3.below (B := w2.heap.size) (fun q hq _ e => by have := hng _ e; omega) (by omega))
               have H3 := Lib.hid (And.intro own3 (And.intro b3 hbl3))
               clear own3 b3 hbl3 fr3))
          obtain ⟨own3, b3, hbl3⟩ := H3.out
          go_roundw
          case rel =>
            refine ⟨k + 1, .slice (some ⟨g, 0, none⟩) (k + 1) cap, hlt, by go_num, ?_, b3.set_ 0 _, hbl3.setCell (by simp) _⟩
            refine ownsRow_setCell_below ?_ (by simp) _
            have e9 : natl (L'.take (k + 1)) = natl (L'.take k) ++ [.int .i64 ((mix x y l : Nat) : Int)] := by
              rw [List.take_add_one, ← natl_snoc]
              congr 1
              rw [← HL.out.1, List.getElem?_map, H.out.2.2.2]
              rfl
            rw [e9, HM.out]
            first
              | exact own3
              | (rw [show ((min x y : Nat) : Int) = if y < x then (y : Int) else (x : Int) by split <;> omega]; exact own3)
          case measure => simp [intOf]; omega
      · obtain rfl : k = L.length := by omega
        have hlen := HL.out.2
        rw [← hlen, List.take_length] at hown
        have hlt2 : w.heap.size < w2.heap.size := l1
        have g1 : wr.cell? ⟨w.heap.size + 1, 0, none⟩ = some (.slice none 0 0) := (H2.out.2.2.below hbl l2).cell 0
        have g2 : wr.frozen? ⟨w.heap.size + 1, 0, none⟩ = false := (H2.out.2.2.below hbl l2).frozen 0
        have H := Lib.hid (And.intro (own_read (hlen ▸ hown)) (And.intro hbl hown))
        clear hown hb hbl
        go_wp2
        refine bodyPost_ret (v := .tuple #[.agg #[.slice A1 L.length c1], .bool true]) (by simp [results, Try.results21, go_sem, *]) rfl ?_
        rw [HJ.out.1, HJ.out.2]
        refine ⟨_, rfl, ⟨A1, c1, by rw [hlen], ?_⟩, ?_⟩
        · have hr1 := H.out.1.setCell (p := ⟨w.heap.size + 1, 0, none⟩) (fun hh => by simp at hh; omega) (.slice A1 L.length c1)
          rw [hlen]
          exact hr1.mono (fun q _ hq => .inr (by omega)) (by omega)
        · exact (H2.out.1.trans (H.out.2.1.mono (by omega))).setCell (by simp) _
end Go.Proofs.Ytogbdilbbofdiaa
