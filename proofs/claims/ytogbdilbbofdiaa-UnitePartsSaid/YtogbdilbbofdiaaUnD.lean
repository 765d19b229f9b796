/-
  unite: Groups.
-/
import Derived.Test.YtogbdilbbofdiaaUnB
import Derived.Test.YtogbdilbbofdiaaUnT
import Derived.Test.YtogbdilbbofdiaaMem
namespace Go.Proofs.Ytogbdilbbofdiaa
open Go.RowKit


def rowsOf (gg : List (List Nat)) : List (List Value) := gg.map natl
theorem own_cell {w : World} {base e g n cap : Nat} {xs : List Value} {u : Value} (h : w.ownsRow base e 1 (.slice (some ⟨g, 0, none⟩) n cap) n xs) {j : Nat} (hj : xs[j]? = some u) : w.cell? ⟨g, j, none⟩ = some u := by
  have hl := (List.getElem?_eq_some_iff.1 hj).1
  have := h.1
  rw [h.cellAt j (by omega)]
  exact hj
theorem snoc_at {α : Type} {l : List α} {x : α} {m : Nat} (h : l.length = m) : (l ++ [x])[m]? = some x := by subst h; simp
theorem rowsOf_at {gg : List (List Nat)} {i : Nat} {l : List Nat} (h : gg[i]? = some l) : (rowsOf gg)[i]? = some (natl l) := by simp [rowsOf, h]
theorem rowsOf_snoc (gg : List (List Nat)) (l : List Nat) : rowsOf (gg ++ [l]) = rowsOf gg ++ [natl l] := by simp [rowsOf]
theorem rowsOf_set (gg : List (List Nat)) (i : Nat) (l : List Nat) : rowsOf (gg.set i l) = (rowsOf gg).set i (natl l) := by simp [rowsOf, List.map_set]

theorem rowsOf_len (gg : List (List Nat)) : (rowsOf gg).length = gg.length := by simp [rowsOf]

theorem groups_nil (w : World) :
    Calls Try.prog 13 #[.pointer none] w fun e w' => e = .returned (.slice none 0 0) ∧ w = w' := by
  go_enter Try.func13, Try.ntmps13
  go_wp2
  go_ret
  exact ⟨rfl, rfl⟩

set_option maxHeartbeats 1600000 in
theorem groups_any {h : At} {L : List Nat} (w : World) (hs : SetsAt w h L) :
    Calls Try.prog 13 #[.pointer (some ⟨h.p, 0, none⟩)] w fun e w' => ∃ v, e = .returned v ∧ LL w' (fun k => w.heap.size ≤ k ∧ k < w'.heap.size) v (rowsOf (groups L)) ∧ SetsAt w' h L ∧ Fr h.own w w' := by
  obtain ⟨up, least, many, left, g, rk, K, hr, hf, hd⟩ := hs
  have hsm := hr.small
  have c0 : w.cell? ⟨h.p, 0, none⟩ = some (.slice (some ⟨h.u, 0, none⟩) L.length L.length) := hr.p.cell 0
  have c1 : (w.alloc (.map #[] 0)).cell? ⟨h.p, 0, none⟩ = some (.slice (some ⟨h.u, 0, none⟩) L.length L.length) := (hr.p.alloc _).cell 0
  have hgl : ∀ i, i < L.length → g i < L.length := hf.glt
  have hulB : h.u < w.heap.size := hr.u.lt
  have HD := Lib.hid (And.intro hr (And.intro hf hd))
  have HG := Lib.hid hgl
  clear hr hf hd hgl
  generalize hn : L.length = n at *
  have Hn := Lib.hid hn
  clear hn
  have hmm := @run_makeMap Try.prog
  obtain ⟨i0, hi0, hz0, hz1, hz2⟩ := info_parts int_info
  obtain ⟨j0, hj0, hy0, hy1, hy2⟩ := info_parts row_info
  go_enter Try.func13, Try.ntmps13
  go_wp2
  go_loopw [4, 17] (fun o u wr => ∃ (k : Nat) (up' : List Nat) (vs : List Value) (f : Int → Option Int), k ≤ n ∧ u = .int .i64 k ∧ Raw wr h n up' many least left ∧ Forest n up' g rk K ∧
      Rows2 wr (w.heap.size + 1) 28 3 o (rowsOf (groupsTo L k)) vs ∧ IMap Try.prog wr 3 3 w.heap.size k f ∧ Places L g k f ∧ Fr h.own w wr ∧ w.heap.size + 1 ≤ wr.heap.size)
    (fun _ u _ => n - (intOf u).toNat)
  case atStart =>
    obtain ⟨hr, hf, hd⟩ := HD.out
    have hF : Fr (fun _ => False) w (w.alloc (.map #[] 0)) := (Fr.refl _ _).alloc _
    exact ⟨0, up, [], fun _ => none, Nat.zero_le _, rfl, hr.fr hF (fun _ _ h => h), hf, Rows2.nil _ _ _ _, IMap.made w, Places.zero L g, hF.mono fun _ _ h => h.elim, by simp⟩
  case round =>
    obtain ⟨k, up', vs, f, hkn, rfl, hr, hf, hrow, hmap, hpl, hfr, hsz⟩ := hrel
    by_cases hlt : k < n
    · have hgk := HG.out k hlt
      obtain ⟨l, hl⟩ : ∃ l, L[k]? = some l := ⟨_, List.getElem?_eq_getElem (by have := Hn.out; omega)⟩
      have hwf : (Lit.int .i64 (g k : Int)).wf = true := WalkArith.wf_i64 (by omega)
      have H := Lib.hid (And.intro hr (And.intro hf (And.intro hrow (And.intro hmap (And.intro hpl (And.intro hfr (And.intro hsz hl)))))))
      clear hr hf hrow hmap hpl hfr hsz hl c0 c1
      go_wp2_with fail
      refine (head_any h n up' least many left g rk K k _ H.out.1 H.out.2.1 hlt).mono ?_
      rintro e w1 ⟨up1, rfl, hr1, hf1, hfr1⟩
      have hmap1 : IMap Try.prog w1 3 3 w.heap.size k f := H.out.2.2.2.1.fr hfr1 (by omega)
      have hrow1 := H.out.2.2.1.fr hfr1 (fun k hk _ => by omega)
      have hsz1 : w.heap.size + 1 ≤ w1.heap.size := Nat.le_trans H.out.2.2.2.2.2.2.1 hfr1.size
      have H1 := Lib.hid (And.intro hr1 (And.intro hf1 (And.intro hfr1 (And.intro hmap1 hrow1))))
      clear hr1 hf1 hfr1 hmap1 hrow1
      have hk1 : (keysTo L k).length ≤ k := keysTo_len L k
      have hrl : (rowsOf (groupsTo L k)).length = (keysTo L k).length := by rw [rowsOf_len, groupsTo_len]
      obtain ⟨A, cO, rfl⟩ : ∃ A c, u4 = .slice A (keysTo L k).length c := by
        obtain ⟨A, c, e⟩ := H1.out.2.2.2.2.form
        rw [hrl] at e
        exact ⟨A, c, e⟩
      have Hrl := Lib.hid hrl
      clear hrl
      generalize hm : (keysTo L k).length = m at *
      have Hm := Lib.hid hm
      clear hm
      cases hfk : f (g k : Int) with
      | none =>
        go_wp2_with (first
          | (at_lookup; refine wpList_lookup_imap rfl _ _ 42 rfl Try.underlying3 Try.underlying42 Try.underlying3 (int_zero _) rfl H1.out.2.2.2.1 _ rfl hwf ?_)
          | (at_mapUpdate
             refine wpList_update_imap rfl _ _ _ 42 rfl Try.underlying3 Try.underlying42 Try.underlying3 rfl H1.out.2.2.2.1 (by unfold maxLen; omega) _ _ rfl rfl hwf (WalkArith.wf_i64 (by omega)) ?_
             intro w2 hmap2 hfr2
             have hrow2 := H1.out.2.2.2.2.fr hfr2 (fun k hk _ => by omega)
             have hsz2 : w.heap.size + 1 ≤ w2.heap.size := Nat.le_trans hsz1 hfr2.size
             have hown2 := hrow2.1
             rw [Hrl.out] at hown2
             have H2 := Lib.hid (And.intro hmap2 (And.intro hfr2 hrow2))
             clear hmap2 hfr2 hrow2)
          | (at_builtin
             refine wpList_append_one rfl (.tmp 36) (.tmp 37) 23 rfl (w.heap.size + 1) 28 j0 _ 24 Try.underlying23 hj0 hy0 hy1 hy2 rfl (.slice A m cO) m vs rfl hown2 w2.heap.size rfl (.slice none 0 0) rfl rfl (by unfold maxLen; omega) (by omega) hsz2 ?_
             intro g1 cap1 w3 own3 fr3 hat3 hlt3
             have H3 := Lib.hid (And.intro own3 (And.intro fr3 hat3))
             have c3 : w3.cell? ⟨g1, m, none⟩ = some (.slice none 0 0) := own_cell own3 (snoc_at (H2.out.2.2.len.trans Hrl.out))
             have hsz3 : w.heap.size + 1 ≤ w3.heap.size := Nat.le_trans hsz2 fr3.size
             clear own3 fr3 hat3)
          | (at_builtin
             refine wpList_append_one rfl (.tmp 44) (.tmp 46) 28 rfl (w.heap.size + 1) 3 i0 _ 8 Try.underlying28 hi0 hz0 hz1 hz2 rfl (.slice none 0 0) 0 [] rfl (World.ownsRow_nil _ _ _ _) w3.heap.size rfl (.int .i64 (k : Int)) rfl rfl (by unfold maxLen; omega) (by omega) hsz3 ?_
             intro g2 cap2 w4 own4 fr4 hat4 hlt4
             have own3' := own_fr H3.out.1 fr4 (fun k _ h => by simp [Value.ownBlock] at h)
             have c4 : w4.cell? ⟨g1, m, none⟩ = some (.slice none 0 0) := own_cell own3' (snoc_at (H2.out.2.2.len.trans Hrl.out))
             have f4 : w4.frozen? ⟨g1, m, none⟩ = false := own3'.frozenAt m
             have H4 := Lib.hid (And.intro own4 (And.intro fr4 hat4))
             clear own4 fr4 hat4 own3'))
        obtain ⟨hr1, hf1, hfr1, _, _⟩ := H1.out
        obtain ⟨hmap2, hfr2, hrow2⟩ := H2.out
        obtain ⟨own3, fr3, hat3⟩ := H3.out
        obtain ⟨own4, fr4, hat4⟩ := H4.out
        obtain ⟨_, _, _, _, hpl, hfr, hsz, hl⟩ := H.out
        obtain ⟨rfl, hpl'⟩ := hpl.new HD.out.2.2 hl hfk
        rw [Hm.out] at hpl'
        have hg1 := own3.lt g1 rfl
        have F : Fr (fun k => w.heap.size + 1 ≤ k) w2 (w4.setCell ⟨g1, m, none⟩ (.slice (some ⟨g2, 0, none⟩) 1 cap2)) :=
          ((fr3.mono fun q _ e => (hown2.lt q e).1).trans (fr4.mono fun q _ e => by simp [Value.ownBlock] at e)).setCell (.inl hg1.1) _
        have hown : ∀ q, h.own q → q < w.heap.size := fun q hq => HD.out.1.own_lt hq
        go_roundw
        case rel =>
          refine ⟨l + 1, up1, vs ++ [.slice (some ⟨g2, 0, none⟩) 1 cap2], _, hlt, by go_num, (hr1.fr hfr2 fun q hq e => by have := hown q hq; omega).fr F fun q hq e => by have := hown q hq; omega, hf1, ?_, hmap2.fr F (by omega), hpl', ?_, ?_⟩
          · rw [groupsTo_new HD.out.2.2.le hl, rowsOf_snoc]
            refine hrow2.fresh Hrl.out (by decide) own3 fr3 own4 fr4 ⟨g2, rfl, ?_⟩
            rcases hat4 with e | e
            · simp [Value.ownBlock] at e
            · exact e
          · exact ((hfr.trans (hfr1.mono fun q _ e => .inr (.inl e))).trans' hfr2 fun q hq e => by omega).trans' F fun q hq e => by omega
          · exact Nat.le_trans hsz2 F.size
        case measure => simp [intOf]; omega
      | some v =>
        obtain ⟨hlk, q, rfl, hq, hpl'⟩ := H.out.2.2.2.2.1.met HD.out.2.2 H.out.2.2.2.2.2.2.2 hfk
        have hqm : q < m := by have := (List.getElem?_eq_some_iff.1 hq).1; have := Hm.out; omega
        have own1 := H1.out.2.2.2.2.1
        rw [Hrl.out] at own1
        obtain ⟨g0, cap0, e0, hb0, hlt0⟩ := own1.form (by omega)
        obtain ⟨vq, hvq⟩ : ∃ u, vs[q]? = some u := ⟨_, List.getElem?_eq_getElem (by have := H1.out.2.2.2.2.len; have := Hrl.out; omega)⟩
        have hrq := groupsTo_old H.out.2.2.2.2.2.2.2 hlk hq
        have ownq := H1.out.2.2.2.2.2.1 q vq _ hvq (rowsOf_at hrq.1)
        rw [natl_len] at ownq
        obtain ⟨Aq, cq, rfl⟩ := own_form ownq
        have hgk2 : (grp L k l).length ≤ k := Nat.le_trans (List.length_filter_le _ _) (by simp)
        injection e0 with e1 e2 e3
        subst e1
        have c1 : w1.cell? ⟨g0, q, none⟩ = some (.slice Aq (grp L k l).length cq) := own_cell own1 hvq
        have hne : ∀ z, (Value.slice Aq (grp L k l).length cq).ownBlock = some z → z ≠ g0 := fun z hz e => own_ne ownq own1 (by decide) z hz (by rw [e]; rfl)
        have HQ := Lib.hid (And.intro hq (And.intro hpl' (And.intro hvq (And.intro hrq hlk))))
        have HN := Lib.hid hne
        clear hq hpl' hvq hrq hlk hne e2 e3
        generalize hgr : (grp L k l).length = rl at *
        have Hgr := Lib.hid hgr
        clear hgr
        go_wp2_with (first
          | (at_lookup; refine wpList_lookup_imap rfl _ _ 42 rfl Try.underlying3 Try.underlying42 Try.underlying3 (int_zero _) rfl H1.out.2.2.2.1 _ rfl hwf ?_)
          | (at_builtin
             refine wpList_append_one rfl (.tmp 44) (.tmp 46) 28 rfl (w.heap.size + 1) 3 i0 _ 8 Try.underlying28 hi0 hz0 hz1 hz2 rfl (.slice Aq rl cq) rl _ rfl ownq w1.heap.size rfl (.int .i64 (k : Int)) rfl rfl (by unfold maxLen; omega) (by omega) hsz1 ?_
             intro g2 cap2 w4 own4 fr4 hat4 hlt4
             have own1' := own_fr own1 fr4 (fun z e h => HN.out z h (by simpa [Value.ownBlock] using e.symm))
             have c4 : w4.cell? ⟨g0, q, none⟩ = some (.slice Aq rl cq) := own_cell own1' HQ.out.2.2.1
             have f4 : w4.frozen? ⟨g0, q, none⟩ = false := own1'.frozenAt q
             have H4 := Lib.hid (And.intro own4 (And.intro fr4 hat4))
             clear own4 fr4 hat4 own1'))
        obtain ⟨hr1, hf1, hfr1, hmap1, hrow1⟩ := H1.out
        obtain ⟨own4, fr4, hat4⟩ := H4.out
        obtain ⟨_, _, _, _, hpl, hfr, hsz, hl⟩ := H.out
        obtain ⟨hq, hpl', hvq, hrq, hlk⟩ := HQ.out
        have F : Fr (fun k => w.heap.size + 1 ≤ k) w1 (w4.setCell ⟨g0, q, none⟩ (.slice (some ⟨g2, 0, none⟩) (rl + 1) cap2)) :=
          (fr4.mono fun z _ e => (ownq.lt z e).1).setCell (.inl hb0) _
        have hown : ∀ q, h.own q → q < w.heap.size := fun q hq => HD.out.1.own_lt hq
        go_roundw
        case rel =>
          refine ⟨k + 1, up1, vs.set q (.slice (some ⟨g2, 0, none⟩) (rl + 1) cap2), f, hlt, by go_num, hr1.fr F fun z hz e => by have := hown z hz; omega, hf1, ?_, (hmap1.fr F (by omega)).mono (by omega), hpl', ?_, ?_⟩
          · rw [hrq.2, rowsOf_set, natl_snoc]
            have hm' := Hrl.out
            rw [← hm'] at hrow1 ⊢
            have hgr' := Hgr.out
            have e : (natl (grp L k l) ++ [Value.int .i64 (k : Int)]).length = rl + 1 := by rw [List.length_append, natl_len, hgr']; rfl
            refine hrow1.grow (by decide) hvq (rowsOf_at hrq.1) (by rw [e]; exact own4) fr4 ?_
            rcases hat4 with e | e
            · exact .inl e.symm
            · exact .inr ⟨g2, rfl, e⟩
          · exact (hfr.trans (hfr1.mono fun q _ e => .inr (.inl e))).trans' F fun q hq e => by omega
          · exact Nat.le_trans hsz1 F.size
        case measure => simp [intOf]; omega
    · obtain rfl : k = n := by omega
      have H := Lib.hid (And.intro hr (And.intro hf (And.intro hrow (And.intro hfr hsz))))
      clear hr hf hrow hmap hpl hfr hsz c0 c1
      go_wp2
      go_ret
      obtain ⟨hr, hf, hrow, hfr, hsz⟩ := H.out
      obtain rfl := Hn.out
      refine ⟨_, rfl, hrow.read.mono fun z hz h => ⟨by omega, h.2⟩, ⟨_, _, _, _, g, rk, K, hr, hf, HD.out.2.2⟩, hfr⟩
end Go.Proofs.Ytogbdilbbofdiaa
