/-
  unite: UniteDoes: does.
-/
import Derived.Test.YtogbdilbbofdiaaUnN
namespace Go.Proofs.Ytogbdilbbofdiaa
open Go.RowKit

attribute [local simp] fr_drew_iff sets_drew_iff below_drew_iff

def DSt (w0 wx : World) (h : At) (g n : Nat) : Prop := ∃ (L : List Nat) (A : Option Addr) (c : Nat), L.length = n ∧ SetsAt wx h L ∧ Blk wx g 45 #[.slice A n c] ∧ Rd wx (fun k => ¬ h.own k ∧ k ≠ g) 1 A n (natl L) ∧ Below w0.heap.size w0 wx

theorem Rd.ref {w : World} {h : At} {g n : Nat} {A : Option Addr} {L : List Nat} (c : Nat) (hr : Rd w (fun k => ¬ h.own k ∧ k ≠ g) 1 A n (natl L)) (hl : L.length = n) : RefAt w (fun k => ¬ h.own k) (.agg #[.slice A n c]) L := by
  subst hl
  exact ⟨A, c, rfl, hr.mono (fun _ _ h => h.1) (by omega)⟩

theorem ref_same_n {S : Nat → Prop} {n : Nat} (A : Option Addr) (c : Nat) (L : List Nat) (a b : Int) (w : World) (hL : L.length = n) (hr : Rd w S 1 A n (natl L)) (hn : n ≤ 100000) :
    Calls Try.prog 23 #[.agg #[.slice A n c], .int .i64 a, .int .i64 b] w fun e w' => e = .returned (.bool (sameB L a b)) ∧ Below w.heap.size w w' := by
  subst hL
  exact ref_same A c L a b w hr hn

set_option maxRecDepth 100000 in
set_option maxHeartbeats 3200000 in
theorem does_yes (a : Int) (v : Value) (rows : List (List Int)) (w : World) (hl : LL w (fun _ => True) v (rows.map intl)) (hn : rows.length ≤ 100000) :
    Calls Try.prog 16 #[.int .i64 a, v] w fun e w' => e = .returned (.bool true) ∧ Below w.heap.size w w' := by
  obtain ⟨n, hna, hn1⟩ : ∃ n : Nat, max 0 (min a 1000) = n ∧ n ≤ 1000 := ⟨(max 0 (min a 1000)).toNat, by omega, by omega⟩
  obtain ⟨Av, cv, rfl⟩ := hl.form
  rw [List.length_map] at hl ⊢
  have HL := Lib.hid hl
  clear hl
  go_enter Try.func16, Try.ntmps16
  go_wp2_with fail
  refine (new_any a n _ hn1 hna).mono ?_
  rintro e w1 ⟨h, rfl, hs1, hfrom, hb1⟩
  have H1 := Lib.hid (And.intro hs1 (And.intro hfrom hb1))
  have ho1 : ∀ k, h.own k → k < w1.heap.size := fun k hk => hs1.own_lt hk
  have hh1 : ∀ k, h.own k → w.heap.size ≤ k := fun k hk => by
    obtain ⟨a1, a2, a3, a4⟩ := hfrom
    rcases hk with rfl | rfl | rfl | rfl <;> assumption
  have HO := Lib.hid (And.intro ho1 hh1)
  clear hs1 hfrom hb1 ho1 hh1
  go_wp2_with fail
  refine (ref_new a n _ hn1 hna).mono ?_
  rintro e w2 ⟨r, rfl, ⟨A, c, rfl, hr2⟩, hb2⟩
  rw [List.length_range] at hr2
  rw [List.length_range]
  have hsz : w1.heap.size ≤ w2.heap.size := hb2.size
  have D0 : DSt w (w2.alloc (.cells #[.slice A n c] 45)) h w2.heap.size n := by
    refine ⟨List.range n, A, c, by simp, (H1.out.1.below hb2).alloc _, Blk.new _ _ _, ?_, (H1.out.2.2.trans (hb2.mono H1.out.2.2.size)).alloc (Nat.le_trans H1.out.2.2.size hsz) _⟩
    refine (hr2.mono (T := fun k => ¬ h.own k ∧ k ≠ w2.heap.size) ?_ (by omega)).alloc _
    intro k hk h1
    refine ⟨fun h2 => ?_, by omega⟩
    have := HO.out.1 k h2
    omega
  have HD := Lib.hid D0
  have hsz2 : w1.heap.size ≤ w2.heap.size := hsz
  clear D0 hr2 hb2
  generalize hg : w2.heap.size = g at *
  go_wp2_with fail
  go_loopw [7, 8, 9, 10, 11] (fun u _ _ _ _ wr => ∃ k : Nat, k ≤ rows.length ∧ u = .int .i64 k ∧ DSt w wr h g n)
    (fun u _ _ _ _ _ => rows.length - (intOf u).toNat)
  case atStart => exact ⟨0, Nat.zero_le _, rfl, HD.out⟩
  case round =>
    obtain ⟨k, hkn, rfl, L, A', c', hLn, hs, hb, hr, hbl⟩ := hrel
    have hgr : g < wr.heap.size := hb.lt
    have c0 : wr.cell? ⟨g, 0, none⟩ = some (.slice A' n c') := hb.cell 0
    by_cases hlt : k < rows.length
    · obtain ⟨B, O, Ai, ci, ri, rfl, hri, hcell, hrd⟩ := (HL.out.below hbl).row (by simp) hlt
      obtain ⟨r, hrr, rfl⟩ := intl_rows_at hri
      rw [intl_len] at hcell hrd
      have HR := Lib.hid (And.intro hs (And.intro hb (And.intro hr (And.intro hbl hrd))))
      clear hs hb hr hbl hrd hri
      by_cases h2 : r.length < 2
      · go_wp2
        go_roundw
        case rel =>
          obtain ⟨hs, hb, hr, hbl, _⟩ := HR.out
          exact ⟨k + 1, hlt, by go_num, L, A', c', hLn, hs, hb, hr, hbl⟩
        case measure => simp [intOf]; omega
      · obtain ⟨x, hx⟩ : ∃ x, r[0]? = some x := ⟨_, List.getElem?_eq_getElem (by omega)⟩
        obtain ⟨y, hy⟩ : ∃ y, r[1]? = some y := ⟨_, List.getElem?_eq_getElem (by omega)⟩
        obtain ⟨Bi, Oi, rfl, _, hc⟩ := HR.out.2.2.2.2.addr (by omega)
        have e0 : wr.cell? ⟨Bi, Oi + 0, none⟩ = some (.int .i64 x) := hc 0 _ (intl_at hx)
        have e1 : wr.cell? ⟨Bi, Oi + 1, none⟩ = some (.int .i64 y) := hc 1 _ (intl_at hy)
        rw [Nat.add_zero] at e0
        clear hc
        generalize hrl : r.length = rl at *
        have h2' : 2 ≤ rl := by omega
        have hsm := HR.out.1.small
        generalize wr = wo at *
        go_wp2_with fail
        have hj := ref_join (S := fun k => ¬ h.own k ∧ k ≠ g) A' c' L x y wo (by rw [hLn]; exact HR.out.2.2.1) (by omega)
        rw [hLn] at hj
        refine hj.mono ?_
        rintro e w3 ⟨v3, rfl, ⟨A3, c3, rfl, hr3⟩, hb3⟩
        have hL3 : (joinL L x y).length = n := by rw [joinL_len, hLn]
        rw [hL3] at hr3
        rw [hL3]
        have hs3 := HR.out.1.below hb3
        have hg3 := HR.out.2.1.below hb3 hgr
        have hbl3 := HR.out.2.2.2.1.trans (hb3.mono HR.out.2.2.2.1.size)
        have hwo : ∀ q, h.own q → q < wo.heap.size := fun q hq => HR.out.1.own_lt hq
        have hr4 : Rd w3 (fun k => ¬ h.own k ∧ k ≠ g) 1 A3 n (natl (joinL L x y)) := hr3.mono (fun q hq h1 => by
          rcases h1 with h1 | h1
          · exact h1
          · exact ⟨fun h2 => by have := hwo q h2; omega, by omega⟩) (by omega)
        have hsz3 : wo.heap.size ≤ w3.heap.size := hb3.size
        have hszw : w.heap.size ≤ wo.heap.size := HR.out.2.2.2.1.size
        have H3 := Lib.hid (And.intro hs3 (And.intro hg3 (And.intro hr4 hbl3)))
        have HW := Lib.hid hwo
        clear hs3 hg3 hr3 hr4 hbl3 hb3 hj hwo
        go_wp2_with fail
        refine (join_any (h := h) (L := L) x y _ (H3.out.1.alloc _)).mono ?_
        rintro e w4 ⟨rfl, hs4, hf4⟩
        have hno : ¬ h.own g := fun h1 => by have := HO.out.1 g h1; omega
        have hno3 : ¬ h.own w3.heap.size := fun h1 => by have := HW.out _ h1; omega
        have hg4 := (H3.out.2.1.alloc (.cells #[.slice A3 n c3] 45)).fr hf4 hno
        have hB4 := (Blk.new w3 45 #[.slice A3 n c3]).fr hf4 hno3
        have hr5 := (H3.out.2.2.1.alloc (.cells #[.slice A3 n c3] 45)).fr hf4 (fun q _ h1 => h1.1)
        have hbl5 : Below w.heap.size w w4 := (H3.out.2.2.2.alloc (by omega) _).trans (hf4.below (fun q hq _ h1 => by have := HO.out.2 q h1; omega) (by simp; omega))
        have d0 : w4.cell? ⟨g, 0, none⟩ = some (.slice A' n c') := hg4.cell 0
        have d1 : w4.cell? ⟨w3.heap.size, 0, none⟩ = some (.slice A3 n c3) := hB4.cell 0
        have d2 : w4.frozen? ⟨g, 0, none⟩ = false := hg4.frozen 0
        have H4 := Lib.hid (And.intro hs4 (And.intro hg4 (And.intro hr5 hbl5)))
        have hbe : ((joinB L x y) == (joinB L x y)) = true := by simp
        generalize joinB L x y = jb at *
        generalize hLL : joinL L x y = L' at *
        clear hs4 hf4 hg4 hB4 hr5 hbl5
        go_wp2_with fail
        have s5 : SetsAt (w4.setCell ⟨g, 0, none⟩ (.slice A3 n c3)) h L' := H4.out.1.fr (S := fun q => q = g) (Fr.setCell (p := ⟨g, 0, none⟩) (Fr.refl (fun q => q = g) w4) (.inl rfl) _) (fun q _ h1 h2 => hno (h2 ▸ h1))
        have b5 : Blk (w4.setCell ⟨g, 0, none⟩ (.slice A3 n c3)) g 45 #[.slice A3 n c3] := H4.out.2.1.set_ 0 _
        have r5 := H4.out.2.2.1.setCell (p := ⟨g, 0, none⟩) (fun h1 => h1.2 rfl) (.slice A3 n c3)
        have l5 : Below w.heap.size w (w4.setCell ⟨g, 0, none⟩ (.slice A3 n c3)) := H4.out.2.2.2.setCell (by have := H1.out.2.2.size; show w.heap.size ≤ g; omega) _
        generalize w4.setCell ⟨g, 0, none⟩ (.slice A3 n c3) = w5 at *
        have c5 : w5.cell? ⟨g, 0, none⟩ = some (.slice A3 n c3) := b5.cell 0
        have F5 : Fr h.own w5 w5 := Fr.refl _ _
        have H5 := Lib.hid (And.intro b5 (And.intro r5 l5))
        have hbs : ((sameB L' x y) == (sameB L' x y)) = true := by simp
        clear b5 r5 l5 d0 d1 d2
        go_region_held3 (fun w' => w'.cell? ⟨g, 0, none⟩ = some (.slice A3 n c3) ∧ SetsAt w' h L' ∧ Fr h.own w5 w') (go_keep) (first
          | (go_at_call 22
             refine (alike_yes (h := h) (L := L') (v := .agg #[.slice A3 n c3]) _ _ (by simp [*]) (Rd.ref c3 (H5.out.2.1.fr (T := h.own) (by simp [*]) (fun _ _ h1 => h1.1)) hL3)).mono ?_
             rintro e w6 ⟨rfl, hs6, hf6⟩
             obtain ⟨hk1, hk2⟩ := frame_step (w := w5) (p := ⟨g, 0, none⟩) (u := .slice A3 n c3) (by assumption) (by assumption) hf6 hno (by first | exact .inl rfl | exact .inr rfl))
          | (go_at_call 17
             refine (same_any (h := h) (L := L') _ _ _ (by simp [*])).mono ?_
             rintro e w7 ⟨rfl, hs7, hf7⟩
             obtain ⟨hk3, hk4⟩ := frame_step (w := w5) (p := ⟨g, 0, none⟩) (u := .slice A3 n c3) (by assumption) (by assumption) hf7 hno (by first | exact .inl rfl | exact .inr rfl))
          | (go_at_call 23
             refine (ref_same_n (S := fun k => ¬ h.own k ∧ k ≠ g) A3 c3 L' _ _ _ hL3 (H5.out.2.1.fr (T := h.own) (by simp [*]) (fun _ _ h1 => h1.1)) (by omega)).mono ?_
             rintro e w8 ⟨rfl, hb8⟩
             have hs8 := ‹SetsAt _ h L'›.below hb8
             obtain ⟨hk5, hk6⟩ := frame_step (w := w5) (p := ⟨g, 0, none⟩) (u := .slice A3 n c3) (by assumption) (by assumption) (Fr.of_below hb8 h.own) hno (by first | exact .inl rfl | exact .inr rfl)))
        all_goals go_wp2
        all_goals go_roundw
        case rel =>
          exact ⟨k + 1, hlt, by go_num, L', A3, c3, hL3, hs8, H5.out.1.fr hk6 hno, H5.out.2.1.fr hk6 (fun q _ h1 => h1.1), H5.out.2.2.trans (hk6.below (fun q hq _ h1 => by have := HO.out.2 q h1; omega) H5.out.2.2.size)⟩
        case measure => simp [intOf]; omega
    · obtain rfl : k = rows.length := by omega
      have hno : ¬ h.own g := fun h1 => by have := HO.out.1 g h1; omega
      have hsm := hs.small
      have F5 : Fr h.own wr wr := Fr.refl _ _
      have H5 := Lib.hid (And.intro hb (And.intro hr hbl))
      have hbs : ((sameB L 0 1) == (sameB L 0 1)) = true := by simp
      clear hb hr hbl
      generalize wr = w5 at *
      go_wp2_with fail
      go_region_held3 (fun w' => w'.cell? ⟨g, 0, none⟩ = some (.slice A' n c') ∧ SetsAt w' h L ∧ Fr h.own w5 w') (go_keep) (first
        | (go_at_call 22
           refine (alike_yes (h := h) (L := L) (v := .agg #[.slice A' n c']) _ _ (by simp [*]) (Rd.ref c' (H5.out.2.1.fr (T := h.own) (by simp [*]) (fun _ _ h1 => h1.1)) hLn)).mono ?_
           rintro e w6 ⟨rfl, hs6, hf6⟩
           obtain ⟨hk1, hk2⟩ := frame_step (w := w5) (p := ⟨g, 0, none⟩) (u := .slice A' n c') (by assumption) (by assumption) hf6 hno (by first | exact .inl rfl | exact .inr rfl))
        | (go_at_call 17
           refine (same_any (h := h) (L := L) _ _ _ (by simp [*])).mono ?_
           rintro e w7 ⟨rfl, hs7, hf7⟩
           obtain ⟨hk3, hk4⟩ := frame_step (w := w5) (p := ⟨g, 0, none⟩) (u := .slice A' n c') (by assumption) (by assumption) hf7 hno (by first | exact .inl rfl | exact .inr rfl))
        | (go_at_call 23
           refine (ref_same_n (S := fun k => ¬ h.own k ∧ k ≠ g) A' c' L _ _ _ hLn (H5.out.2.1.fr (T := h.own) (by simp [*]) (fun _ _ h1 => h1.1)) (by omega)).mono ?_
           rintro e w8 ⟨rfl, hb8⟩
           have hs8 := ‹SetsAt _ h L›.below hb8
           obtain ⟨hk5, hk6⟩ := frame_step (w := w5) (p := ⟨g, 0, none⟩) (u := .slice A' n c') (by assumption) (by assumption) (Fr.of_below hb8 h.own) hno (by first | exact .inl rfl | exact .inr rfl)))
      all_goals go_wp2
      all_goals go_ret
      all_goals exact ⟨rfl, H5.out.2.2.trans (hk6.below (fun q hq _ h1 => by have := HO.out.2 q h1; omega) H5.out.2.2.size)⟩
end Go.Proofs.Ytogbdilbbofdiaa
