/-
  unite's reference: Groups.
-/
import Derived.Test.YtogbdilbbofdiaaUnL
namespace Go.Proofs.Ytogbdilbbofdiaa
open Go.RowKit

theorem own_base {w : World} {base base' n size : Nat} {e : TypeId} {v : Value} {xs : List Value} (h : w.ownsRow base e size v n xs) (hb : base' ≤ base) : w.ownsRow base' e size v n xs := by
  refine ⟨h.1, ?_⟩
  rcases h.2 with hn | ⟨g, cap, cur, rfl, hbb, hg, r⟩
  · exact .inl hn
  · exact .inr ⟨g, cap, cur, rfl, Nat.le_trans hb hbb, hg, r⟩

def gr (L : List Nat) (k : Nat) : List (List Nat) := (keysTo L k).map (grp L L.length)
theorem gr_yes {L : List Nat} {k : Nat} (h : L[k]? = some k) : gr L (k + 1) = gr L k ++ [grp L L.length k] := by simp [gr, keysTo_succ, h]
theorem gr_no {L : List Nat} {k l : Nat} (h : L[k]? = some l) (hn : l ≠ k) : gr L (k + 1) = gr L k := by simp [gr, keysTo_succ, h, hn]
theorem gr_len (L : List Nat) (k : Nat) : (gr L k).length ≤ k := by simp [gr, keysTo_len]

set_option maxRecDepth 100000 in
set_option maxHeartbeats 1600000 in
theorem ref_groups {S : Nat → Prop} (A : Option Addr) (c : Nat) (L : List Nat) (w : World) (hr : Rd w S 1 A L.length (natl L)) (hn : L.length ≤ 100000) :
    Calls Try.prog 25 #[.agg #[.slice A L.length c]] w fun e w' => ∃ v, e = .returned v ∧ LL w' (fun k => w.heap.size ≤ k ∧ k < w'.heap.size) v ((groupsI L).map intl) ∧ Below w.heap.size w w' := by
  obtain ⟨i0, hi0, hz0, hz1, hz2⟩ := info_parts int_info
  obtain ⟨j0, hj0, hy0, hy1, hy2⟩ := info_parts row_info
  have HR := Lib.hid hr
  clear hr
  go_enter Try.func25, Try.ntmps25
  go_wp2_with fail
  go_loopw [3, 4, 5, 6] (fun o u _ _ wr => ∃ (k : Nat) (vs : List Value), k ≤ L.length ∧ u = .int .i64 k ∧ Rows2 wr (w.heap.size + 1) 28 3 o (rowsOf (gr L k)) vs ∧ Blk wr w.heap.size 45 #[.slice A L.length c] ∧ Below w.heap.size w wr)
    (fun _ u _ _ _ => L.length - (intOf u).toNat)
  case atStart =>
    exact ⟨0, [], Nat.zero_le _, rfl, Rows2.nil _ _ _ _, Blk.new _ _ _, (Below.refl _ _).alloc (Nat.le_refl _) _⟩
  case round =>
    obtain ⟨k, vs, hkn, rfl, hrow, hblk, hbl⟩ := hrel
    have c0 : wr.cell? ⟨w.heap.size, 0, none⟩ = some (.slice A L.length c) := hblk.cell 0
    have hsz : w.heap.size + 1 ≤ wr.heap.size := hblk.lt
    have hgl : (gr L k).length ≤ k := gr_len L k
    by_cases hlt : k < L.length
    · obtain ⟨l, hl⟩ : ∃ l, L[k]? = some l := ⟨_, List.getElem?_eq_getElem hlt⟩
      obtain ⟨B, O, rfl, _, hc⟩ := (HR.out.below hbl).addr (by omega)
      have e0 : wr.cell? ⟨B, O + k, none⟩ = some (.int .i64 (l : Int)) := hc k _ (natl_at hl)
      have hBw : B < w.heap.size := by
        obtain ⟨B', O', e, _, hc'⟩ := HR.out.addr (by omega)
        injection e with e
        injection e with e1 e2
        rw [e1]
        exact World.block_lt_of_cell? _ _ (hc' k _ (natl_at hl))
      obtain ⟨A0, a0, rfl⟩ : ∃ A c, u3 = .slice A (gr L k).length c := by
        obtain ⟨A, c, e⟩ := hrow.form
        rw [rowsOf_len] at e
        exact ⟨A, c, e⟩
      have H := Lib.hid (And.intro hrow (And.intro hblk (And.intro hbl hl)))
      have RD := Lib.hid hc
      clear hrow hblk hbl hl hc
      by_cases hlk : l = k
      · subst hlk
        have e1 : ((l : Int) == (l : Int)) = true := by simp
        have HL := Lib.hid hgl
        clear hgl
        generalize hm : (gr L l).length = m at *
        have Hm := Lib.hid hm
        clear hm
        generalize hLn : L.length = n at *
        have Hn := Lib.hid hLn
        clear hLn
        generalize wr = wo at *
        go_wp2
        go_loopw [5, 6] (fun o u wi => ∃ j : Nat, j ≤ n ∧ u = .int .i64 j ∧ wi.ownsRow wo.heap.size 3 1 o (grp L j l).length (natl (grp L j l)) ∧ Below wo.heap.size wo wi)
          (fun _ u _ => n - (intOf u).toNat)
        case atStart =>
          refine ⟨0, Nat.zero_le _, rfl, World.ownsRow_nil _ _ _ _, Below.refl _ _⟩
        case round =>
          obtain ⟨j, hjn, rfl, hown, hbi⟩ := hrel
          obtain ⟨A5, a5, rfl⟩ := own_form hown
          have hBl : wo.heap.size ≤ wr.heap.size := hbi.size
          have c1 : wr.cell? ⟨w.heap.size, 0, none⟩ = some (.slice (some ⟨B, O, none⟩) n c) := (H.out.2.1.below hbi H.out.2.1.lt).cell 0
          have hgj : (grp L j l).length ≤ j := Nat.le_trans (List.length_filter_le _ _) (by simp)
          by_cases hjl : j < n
          · obtain ⟨q, hq⟩ : ∃ q, L[j]? = some q := ⟨_, List.getElem?_eq_getElem (by have := Hn.out; omega)⟩
            have e5 : wr.cell? ⟨B, O + j, none⟩ = some (.int .i64 (q : Int)) := by
              rw [hbi.cell (p := ⟨B, O + j, none⟩) (by show B < wo.heap.size; omega)]
              exact RD.out _ _ (natl_at hq)
            have HI := Lib.hid (And.intro hown (And.intro hbi hq))
            clear hown hbi hq
            generalize hgm : (grp L j l).length = gm at *
            have Hgm := Lib.hid hgm
            clear hgm
            by_cases hql : q = l
            · have e6 : ((q : Int) == (l : Int)) = true := by simp [hql]
              have h63 : gm + 1 ≤ maxLen := by unfold maxLen; omega
              have hby : (gm + 1) * 8 ≤ 140737488355328 := by omega
              go_wp2_with (first
                | (at_builtin
                   refine wpList_append_one rfl (.tmp 35) (.tmp 37) 28 rfl wo.heap.size 3 i0 _ 8 Try.underlying28 hi0 hz0 hz1 hz2 rfl (.slice A5 gm a5) gm _ rfl HI.out.1 wr.heap.size rfl _ rfl rfl h63 hby hBl ?_
                   intro g cap w3 own3 fr3 hat3 hlt3
                   have hng : ∀ q, (Value.slice A5 gm a5).ownBlock = some q → wo.heap.size ≤ q := fun q e => (HI.out.1.lt q e).1
                   have hbl3 := HI.out.2.1.trans (fr3.below (B := wo.heap.size) (fun q hq _ e => by have := hng _ e; omega) (by omega))
                   have H3 := Lib.hid (And.intro own3 hbl3)
                   clear own3 hbl3 fr3))
              obtain ⟨own3, hbl3⟩ := H3.out
              go_roundw
              case rel =>
                refine ⟨j + 1, by omega, by go_num, ?_, hbl3⟩
                rw [grp_succ, if_pos (by rw [HI.out.2.2, hql]), natl_snoc, List.length_append, Hgm.out]
                exact own3
              case measure => simp [intOf]; omega
            · have e6 : ((q : Int) == (l : Int)) = false := by simp; omega
              go_wp2
              go_roundw
              case rel =>
                refine ⟨j + 1, by omega, by go_num, ?_, HI.out.2.1⟩
                rw [grp_succ, if_neg (by rw [HI.out.2.2]; intro e; exact hql (Option.some.inj e)), List.append_nil, Hgm.out]
                exact HI.out.1
              case measure => simp [intOf]; omega
          · obtain rfl : j = n := by omega
            have hrow := H.out.1.fr (Fr.of_below hbi (fun _ => False)) (fun _ _ _ h => h)
            have own0 := hrow.1
            rw [rowsOf_len, Hm.out] at own0
            have hml := HL.out
            have h63 : m + 1 ≤ maxLen := by unfold maxLen; omega
            have hby : (m + 1) * 24 ≤ 140737488355328 := by omega
            have hsz2 : w.heap.size + 1 ≤ wr.heap.size := by omega
            have HI := Lib.hid (And.intro hown (And.intro hbi (And.intro hrow own0)))
            clear hown hbi hrow own0
            go_wp2_with (first
              | (at_builtin
                 refine wpList_append_one rfl (.tmp 39) (.tmp 41) 23 rfl (w.heap.size + 1) 28 j0 _ 24 Try.underlying23 hj0 hy0 hy1 hy2 rfl (.slice A0 m a0) m vs rfl HI.out.2.2.2 wr.heap.size rfl _ rfl rfl h63 hby hsz2 ?_
                 intro g cap w3 own3 fr3 hat3 hlt3
                 have hng : ∀ q, (Value.slice A0 m a0).ownBlock = some q → w.heap.size + 1 ≤ q := fun q e => (HI.out.2.2.2.lt q e).1
                 have H3 := Lib.hid (And.intro own3 (And.intro fr3 hng))
                 clear own3 fr3 hng))
            obtain ⟨own3, fr3, hng⟩ := H3.out
            obtain ⟨hown, hbi, hrow, own0⟩ := HI.out
            go_roundw
            case rel =>
              refine ⟨l + 1, vs ++ [.slice A5 (grp L j l).length a5], by omega, by go_num, ?_, ?_, ?_⟩
              · have e1 : L[l]? = some l := H.out.2.2.2
                rw [gr_yes e1, rowsOf_snoc, Hn.out]
                have h1 := hrow.snoc (r := natl (grp L j l)) (by decide) (by rw [rowsOf_len, Hm.out]; exact own3) fr3 (by rw [natl_len]; exact own_base hown (by omega)) ?_
                · exact h1
                · intro i u' hu'
                  have hi : i < m := by have h1 := (List.getElem?_eq_some_iff.1 hu').1; have h2 := hrow.len; rw [rowsOf_len, Hm.out] at h2; omega
                  have hrl := H.out.1.len
                  rw [rowsOf_len, Hm.out] at hrl
                  have h2 := H.out.1.2.1 i u' _ hu' (List.getElem?_eq_getElem (by rw [rowsOf_len, Hm.out]; exact hi))
                  cases e : (Value.slice A5 (grp L j l).length a5).ownBlock with
                  | none => exact .inl rfl
                  | some z =>
                    refine .inr fun e' => ?_
                    have h3 := (hown.lt z e).1
                    have h4 := (h2.lt z e'.symm).2
                    omega
              · exact (H.out.2.1.below hbi H.out.2.1.lt).fr fr3 (fun e => by have := hng _ e; omega)
              · exact (H.out.2.2.1.trans (hbi.mono (by omega))).trans (fr3.below (B := w.heap.size) (fun q hq _ e => by have := hng _ e; omega) (by omega))
            case measure => simp [intOf]; omega
      · have e1 : ((l : Int) == (k : Int)) = false := by simp; omega
        generalize hLn : L.length = n at *
        have Hn := Lib.hid hLn
        clear hLn
        go_wp2
        go_roundw
        case rel =>
          refine ⟨k + 1, vs, by omega, by go_num, ?_, H.out.2.1, H.out.2.2.1⟩
          rw [gr_no H.out.2.2.2 hlk]
          exact H.out.1
        case measure => simp [intOf]; omega
    · obtain rfl : k = L.length := by omega
      have fin : LL wr (fun k => w.heap.size ≤ k ∧ k < wr.heap.size) u3 ((groupsI L).map intl) ∧ Below w.heap.size w wr := by
        refine ⟨?_, hbl⟩
        rw [← rowsOf_groups]
        exact hrow.read.mono (fun q _ hq => ⟨by omega, hq.2⟩)
      have FIN := Lib.hid fin
      clear fin hrow hblk hbl
      go_wp2
      go_ret
      exact ⟨_, rfl, FIN.out⟩
end Go.Proofs.Ytogbdilbbofdiaa
