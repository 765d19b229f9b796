/-
  UniteStars: however all numbers of two kinds are put together, one by one, there are two groups; one more join makes one.
-/
import Derived.Test.YtogbdilbbofdiaaUnF
namespace Go.Proofs.Ytogbdilbbofdiaa
open Go.RowKit

def starL (m k : Nat) : List Nat := (List.range m).map fun i => if i < k then i % 2 else i
def evens (k : Nat) : List Nat := (List.range k).filter fun i => i % 2 == 0
def odds (k : Nat) : List Nat := (List.range k).filter fun i => i % 2 == 1
def zs (l : List Nat) : List Int := l.map Int.ofNat

theorem starL_zero (m : Nat) : starL m 0 = List.range m := by simp [starL]
theorem starL_at {m k i : Nat} (h : i < m) : (starL m k)[i]? = some (if i < k then i % 2 else i) := by simp [starL, h]
theorem star_join {m k t : Nat} (hk : k < m) (ht : t ≤ k) (hp : t % 2 = k % 2) (h2 : t = k → k < 2) : joinL (starL m k) (k : Int) (t : Int) = starL m (k + 1) := by
  have e1 : of_ (starL m k) (k : Int) = some k := by
    unfold of_
    rw [if_pos (by omega), Int.toNat_natCast, starL_at hk, if_neg (by omega)]
  rcases Nat.lt_or_ge t k with hlt | hge
  · have e2 : of_ (starL m k) (t : Int) = some (k % 2) := by
      unfold of_
      rw [if_pos (by omega), Int.toNat_natCast, starL_at (by omega), if_pos hlt, hp]
    unfold joinL
    rw [e1, e2]
    simp only
    unfold starL
    rw [List.map_map]
    apply List.map_congr_left
    intro i hi
    simp only [Function.comp]
    unfold mix
    by_cases c1 : i < k
    · rw [if_pos c1, if_pos (show i < k + 1 by omega)]
      split <;> omega
    · rw [if_neg c1]
      by_cases c2 : i < k + 1
      · rw [if_pos c2, if_pos (by omega)]; omega
      · rw [if_neg c2, if_neg (by omega)]
  · obtain rfl : t = k := by omega
    have h3 := h2 rfl
    unfold joinL
    rw [e1]
    simp only
    unfold starL
    rw [List.map_map]
    apply List.map_congr_left
    intro i hi
    simp only [Function.comp]
    unfold mix
    by_cases c1 : i < t
    · rw [if_pos c1, if_pos (show i < t + 1 by omega)]
      split <;> omega
    · rw [if_neg c1]
      by_cases c2 : i < t + 1
      · rw [if_pos c2, if_pos (by omega)]; omega
      · rw [if_neg c2, if_neg (by omega)]
theorem evens_succ (k : Nat) : evens (k + 1) = evens k ++ if k % 2 = 0 then [k] else [] := by
  unfold evens
  rw [List.range_succ, List.filter_append]
  by_cases h : k % 2 = 0 <;> simp [h]
theorem odds_succ (k : Nat) : odds (k + 1) = odds k ++ if k % 2 = 0 then [] else [k] := by
  unfold odds
  rw [List.range_succ, List.filter_append]
  rcases Nat.mod_two_eq_zero_or_one k with h | h <;> simp [h]
theorem evens_len (k : Nat) : (evens k).length ≤ k := Nat.le_trans (List.length_filter_le _ _) (by simp)
theorem odds_len (k : Nat) : (odds k).length ≤ k := Nat.le_trans (List.length_filter_le _ _) (by simp)
theorem star_facts : ∀ m, m < 42 → 2 ≤ m → groupsI (starL m m) = [zs (evens m), zs (odds m)] ∧ joinB (starL m m) 0 1 = true ∧ roots (joinL (starL m m) 0 1) = 1 ∧ leastI (joinL (starL m m) 0 1) ((m : Int) - 1) = 0 := by decide +kernel
theorem natl_zs (l : List Nat) : natl l = intl (zs l) := by simp [natl, intl, zs]

/-- Two rows of a call's own in one literal list of lists. -/
theorem LL.two {w : World} {S : Nat → Prop} {g0 n1 n2 : Nat} {t0 : TypeId} {A1 A2 : Option Addr} {c1 c2 : Nat} {r1 r2 : List Value} (h0 : Blk w g0 t0 #[.slice A1 n1 c1, .slice A2 n2 c2]) (hS : S g0)
    (h1 : Rd w S 1 A1 n1 r1) (h2 : Rd w S 1 A2 n2 r2) : LL w S (.slice (some ⟨g0, 0, none⟩) 2 2) [r1, r2] := by
  refine ⟨_, 2, _, rfl, Rd.of_blk h0 hS rfl, ?_⟩
  have e1 : r1.length = n1 := by have := h1.1; omega
  have e2 : r2.length = n2 := by have := h2.1; omega
  intro i u r hu hr
  match i, hu, hr with
  | 0, hu, hr =>
    simp at hu hr
    subst hu
    subst hr
    exact ⟨_, c1, by rw [e1], by rw [e1]; exact h1⟩
  | 1, hu, hr =>
    simp at hu hr
    subst hu
    subst hr
    exact ⟨_, c2, by rw [e2], by rw [e2]; exact h2⟩
  | n + 2, hu, hr => simp at hr

/-- The round's state. -/
structure Star (w wr : World) (M : Nat) (h : At) (m k : Nat) (ve vo : Value) : Prop where
  s : SetsAt wr h (starL m k)
  sf : h.from w.heap.size
  sM : ∀ q, h.own q → q < M
  e : wr.ownsRow M 3 1 ve (evens k).length (natl (evens k))
  o : wr.ownsRow M 3 1 vo (odds k).length (natl (odds k))
  ne : ∀ q, ve.ownBlock = some q → vo.ownBlock ≠ some q
  wM : w.heap.size ≤ M
  Mr : M ≤ wr.heap.size
  bl : Below w.heap.size w wr

theorem Star.join {w wr w' : World} {M m k k' : Nat} {h : At} {ve vo : Value} (x : Star w wr M h m k ve vo) (hs : SetsAt w' h (starL m k')) (hf : Fr h.own wr w') :
    SetsAt w' h (starL m k') ∧ w'.ownsRow M 3 1 ve (evens k).length (natl (evens k)) ∧ w'.ownsRow M 3 1 vo (odds k).length (natl (odds k)) ∧ M ≤ w'.heap.size ∧ Below w.heap.size w w' :=
  ⟨hs, own_fr x.e hf fun q hq ho => by have := x.sM q ho; have := (x.e.lt q hq).1; omega, own_fr x.o hf fun q hq ho => by have := x.sM q ho; have := (x.o.lt q hq).1; omega, Nat.le_trans x.Mr hf.size,
    x.bl.trans (hf.own_below x.sf x.bl.size)⟩

theorem to_val {b k : Nat} (hb : b < 256) (hk : k < 42) : wrap64 (wrap64 (wrap64 (((b : Int) % ((k : Int) + 1)).tdiv 2) * 2) + (k : Int) % 2) = ((b % (k + 1) / 2 * 2 + k % 2 : Nat) : Int) := by
  have h1 : (b : Int) % ((k : Int) + 1) = ((b % (k + 1) : Nat) : Int) := by simp
  have h2 : b % (k + 1) < k + 1 := Nat.mod_lt _ (by omega)
  rw [h1]
  generalize b % (k + 1) = x at *
  rw [Int.tdiv_eq_ediv_of_nonneg (by omega)]
  unfold wrap64
  omega
theorem to_le {b k : Nat} : b % (k + 1) / 2 * 2 + k % 2 ≤ k ∧ (b % (k + 1) / 2 * 2 + k % 2) % 2 = k % 2 := by
  have h2 : b % (k + 1) < k + 1 := Nat.mod_lt _ (by omega)
  generalize b % (k + 1) = x at *
  omega
theorem Star.next {w wr w2 w3 : World} {M m k : Nat} {h : At} {ve vo ve' vo' : Value} (x : Star w wr M h m k ve vo) (hs : SetsAt w2 h (starL m (k + 1))) (hbl : Below w.heap.size w w2) (hM : M ≤ w2.heap.size) {S : Nat → Prop} (hf : Fr S w2 w3) (hS : ∀ q, S q → M ≤ q)
    (he : w3.ownsRow M 3 1 ve' (evens (k + 1)).length (natl (evens (k + 1)))) (ho : w3.ownsRow M 3 1 vo' (odds (k + 1)).length (natl (odds (k + 1)))) (hne : ∀ q, ve'.ownBlock = some q → vo'.ownBlock ≠ some q) : Star w w3 M h m (k + 1) ve' vo' :=
  ⟨hs.fr hf fun q _ hq hq' => by have := x.sM q hq; have := hS q hq'; omega, x.sf, x.sM, he, ho, hne, x.wM, Nat.le_trans hM hf.size, hbl.trans (hf.below (fun q hq _ hq' => by have := hS q hq'; have := x.wM; omega) (by have := x.wM; omega))⟩

set_option maxRecDepth 100000 in
set_option maxHeartbeats 3200000 in
theorem stars_yes (A : Option Addr) (n c : Nat) (bs : List Nat) (b : Nat) (w : World) (hr : Rd w (fun _ => True) 1 A n (bytl bs)) (hb : ∀ b ∈ bs, b < 256) (hn : n ≤ maxLen) (hb8 : b < 256) :
    Calls Try.prog 4 #[.int .u8 (b : Int), .slice A n c] w fun e w' => e = .returned (.bool true) ∧ Below w.heap.size w w' := by
  unfold maxLen at hn
  obtain ⟨i0, hi0, hz0, hz1, hz2⟩ := info_parts int_info
  have hlen : bs.length = n := by have := hr.1; rw [bytl_len] at this; omega
  have HR := Lib.hid (And.intro hr (And.intro hb hlen))
  clear hr hb hlen
  go_enter Try.func4, Try.ntmps4
  go_wp2_with fail
  generalize hmi : (2 + (b : Int) % 40) = mi
  obtain ⟨m, rfl⟩ : ∃ m : Nat, mi = m := ⟨mi.toNat, by omega⟩
  have hm2 : 2 ≤ m := by omega
  have hm41 : m < 42 := by omega
  clear hmi
  refine (new_any _ m _ (by omega) (by omega)).mono ?_
  rintro e w1 ⟨s, rfl, hs1, hfrom, hb1⟩
  have hstar : Star w w1 w1.heap.size s m 0 (.slice none 0 0) (.slice none 0 0) :=
    ⟨by rw [starL_zero]; exact hs1, hfrom, fun q hq => hs1.own_lt hq, World.ownsRow_nil _ _ _ _, World.ownsRow_nil _ _ _ _, fun q h => by simp [Value.ownBlock] at h, hb1.size, Nat.le_refl _, hb1⟩
  have H1 := Lib.hid hstar
  generalize w1.heap.size = M at *
  clear hs1 hfrom hb1 hstar
  go_wp2_with fail
  go_loopw [7, 8, 9] (fun ve vo u wr => ∃ k : Nat, u = .int .i64 k ∧ k ≤ m ∧ Star w wr M s m k ve vo) (fun _ _ u _ => m - (intOf u).toNat)
  case atStart => exact ⟨0, rfl, Nat.zero_le _, H1.out⟩
  case round =>
    obtain ⟨k, rfl, hkm, hS⟩ := hrel
    have HS := Lib.hid hS
    clear hS
    by_cases hlt : k < m
    · go_upto_if 31 with fail
      go_cut [10] (fun s10 wx => wr = wx ∧ ∃ t : Nat, s10 = .int .i64 (t : Int) ∧ t ≤ k ∧ t % 2 = k % 2)
      case first =>
        by_cases hkn : k < n
        · obtain ⟨hr, hb, hlen⟩ := HR.out
          obtain ⟨aB, aO, rfl, _, hcell⟩ := hr.addr (by omega)
          obtain ⟨b1, hb1⟩ : ∃ b, bs[k]? = some b := ⟨_, List.getElem?_eq_getElem (by omega)⟩
          have l1 : b1 < 256 := hb b1 (List.mem_of_getElem? hb1)
          have c0 := hcell k _ (bytl_at hb1)
          have c1 : wr.cell? ⟨aB, aO + k, none⟩ = some (.int .u8 (b1 : Int)) := by
            rw [← c0]
            exact HS.out.bl.cell (World.block_lt_of_cell? _ _ c0)
          clear hr hb hlen hcell hb1 c0
          go_wp2
          go_meet
          exact ⟨rfl, _, congrArg (Value.int .i64) (to_val l1 (by omega)), to_le⟩
        · go_wp2
          go_meet
          exact ⟨rfl, k % 2, congrArg (Value.int .i64) (by omega), by omega, by omega⟩
      case rest =>
        obtain ⟨rfl, t, rfl, htk, htp⟩ := hcut
        obtain ⟨Ae, ce, rfl⟩ := own_form HS.out.e
        obtain ⟨Ao, co, rfl⟩ := own_form HS.out.o
        have le1 := evens_len k
        have le2 := odds_len k
        have hm2' : ((k : Int) % 2) = ((k % 2 : Nat) : Int) := by omega
        have HK := Lib.hid hm2'
        clear hm2'
        have tail : ∀ (w2 : World) (hs2 : SetsAt w2 s (starL m (k + 1))) (hf2 : Fr s.own wr w2), True := fun _ _ _ => trivial
        clear tail
        generalize hle : (evens k).length = le at *
        generalize hlo : (odds k).length = lo at *
        have HLE := Lib.hid (And.intro hle hlo)
        clear hle hlo
        by_cases htl : t < k
        · have hj : joinL (starL m k) (k : Int) (t : Int) = starL m (k + 1) := star_join hlt htk htp (fun e => by omega)
          have HJ := Lib.hid hj
          clear hj
          by_cases hp : k % 2 = 0
          · have hb1 : ((k : Int) % 2 == 0) = true := by simp; omega
            go_wp2_with fail
            refine (join_at _ _ _ HS.out.s rfl HJ.out).mono ?_
            rintro e w2 ⟨rfl, hs2, hf2⟩
            have H2 := Lib.hid (HS.out.join hs2 hf2)
            have hM2 : M ≤ w2.heap.size := H2.out.2.2.2.1
            have hown2 := H2.out.2.1
            rw [HLE.out.1] at hown2
            clear hs2 hf2
            go_wp2_with (at_builtin; refine wpList_append_one rfl (.tmp 63) (.tmp 65) 28 rfl M 3 i0 _ 8 Try.underlying28 hi0 hz0 hz1 hz2 rfl (.slice Ae le ce) le _ rfl hown2 w2.heap.size rfl (.int .i64 (k : Int)) rfl rfl (by unfold maxLen; omega) (by omega) hM2 ?_; intro g3 cap3 w3 own3 fr3 hat3 hlt3)
            obtain ⟨hs2, he2, ho2, _, hbl2⟩ := H2.out
            have hev : evens (k + 1) = evens k ++ [k] := by rw [evens_succ]; simp [hp]
            have hod : odds (k + 1) = odds k ++ [] := by rw [odds_succ]; simp [hp]
            obtain ⟨hle, hlo⟩ := HLE.out
            rw [hle] at he2
            rw [hlo] at ho2
            have own3' : w3.ownsRow M 3 1 (.slice (some ⟨g3, 0, none⟩) (le + 1) cap3) (evens (k + 1)).length (natl (evens (k + 1))) := by
              rw [hev, List.length_append, hle, natl_snoc]; exact own3
            have keep3 : w3.ownsRow M 3 1 (.slice Ao lo co) (odds (k + 1)).length (natl (odds (k + 1))) := by
              rw [hod, List.append_nil, hlo]; exact own_fr ho2 fr3 fun q hq h => HS.out.ne q h hq
            go_roundw
            case rel =>
              refine ⟨k + 1, by go_num, hlt, HS.out.next hs2 hbl2 hM2 fr3 (fun q h => (he2.lt q h).1) own3' keep3 fun q h1 h2 => ?_⟩
              have e1 : g3 = q := by simpa [Value.ownBlock] using h1
              subst e1
              rcases hat3 with h3 | h3
              · exact HS.out.ne _ h3 h2
              · have := (ho2.lt _ h2).2; omega
            case measure => simp [intOf]; omega
          · have hb1 : ((k : Int) % 2 == 0) = false := by simp; omega
            go_wp2_with fail
            refine (join_at _ _ _ HS.out.s rfl HJ.out).mono ?_
            rintro e w2 ⟨rfl, hs2, hf2⟩
            have H2 := Lib.hid (HS.out.join hs2 hf2)
            have hM2 : M ≤ w2.heap.size := H2.out.2.2.2.1
            have hown2 := H2.out.2.2.1
            rw [HLE.out.2] at hown2
            clear hs2 hf2
            go_wp2_with (at_builtin; refine wpList_append_one rfl (.tmp 67) (.tmp 69) 28 rfl M 3 i0 _ 8 Try.underlying28 hi0 hz0 hz1 hz2 rfl (.slice Ao lo co) lo _ rfl hown2 w2.heap.size rfl (.int .i64 (k : Int)) rfl rfl (by unfold maxLen; omega) (by omega) hM2 ?_; intro g3 cap3 w3 own3 fr3 hat3 hlt3)
            obtain ⟨hs2, he2, ho2, _, hbl2⟩ := H2.out
            have hev : evens (k + 1) = evens k ++ [] := by rw [evens_succ]; simp [hp]
            have hod : odds (k + 1) = odds k ++ [k] := by rw [odds_succ]; simp [hp]
            obtain ⟨hle, hlo⟩ := HLE.out
            rw [hle] at he2
            rw [hlo] at ho2
            have own3' : w3.ownsRow M 3 1 (.slice (some ⟨g3, 0, none⟩) (lo + 1) cap3) (odds (k + 1)).length (natl (odds (k + 1))) := by
              rw [hod, List.length_append, hlo, natl_snoc]; exact own3
            have keep3 : w3.ownsRow M 3 1 (.slice Ae le ce) (evens (k + 1)).length (natl (evens (k + 1))) := by
              rw [hev, List.append_nil, hle]; exact own_fr he2 fr3 fun q hq h => HS.out.ne q hq h
            go_roundw
            case rel =>
              refine ⟨k + 1, by go_num, hlt, HS.out.next hs2 hbl2 hM2 fr3 (fun q h => (ho2.lt q h).1) keep3 own3' fun q h1 h2 => ?_⟩
              have e1 : g3 = q := by simpa [Value.ownBlock] using h2
              subst e1
              rcases hat3 with h3 | h3
              · exact HS.out.ne _ h1 h3
              · have := (he2.lt _ h1).2; omega
            case measure => simp [intOf]; omega
        · obtain rfl : t = k := by omega
          have hj : joinL (starL m t) (t : Int) ((t : Int) % 2) = starL m (t + 1) := by
            rw [HK.out]; exact star_join hlt (by omega) (by omega) (fun e => by omega)
          have HJ := Lib.hid hj
          clear hj
          by_cases hp : t % 2 = 0
          · have hb1 : ((t : Int) % 2 == 0) = true := by simp; omega
            go_wp2_with fail
            refine (join_at _ _ _ HS.out.s rfl HJ.out).mono ?_
            rintro e w2 ⟨rfl, hs2, hf2⟩
            have H2 := Lib.hid (HS.out.join hs2 hf2)
            have hM2 : M ≤ w2.heap.size := H2.out.2.2.2.1
            have hown2 := H2.out.2.1
            rw [HLE.out.1] at hown2
            clear hs2 hf2
            go_wp2_with (at_builtin; refine wpList_append_one rfl (.tmp 63) (.tmp 65) 28 rfl M 3 i0 _ 8 Try.underlying28 hi0 hz0 hz1 hz2 rfl (.slice Ae le ce) le _ rfl hown2 w2.heap.size rfl (.int .i64 (t : Int)) rfl rfl (by unfold maxLen; omega) (by omega) hM2 ?_; intro g3 cap3 w3 own3 fr3 hat3 hlt3)
            obtain ⟨hs2, he2, ho2, _, hbl2⟩ := H2.out
            have hev : evens (t + 1) = evens t ++ [t] := by rw [evens_succ]; simp [hp]
            have hod : odds (t + 1) = odds t ++ [] := by rw [odds_succ]; simp [hp]
            obtain ⟨hle, hlo⟩ := HLE.out
            rw [hle] at he2
            rw [hlo] at ho2
            have own3' : w3.ownsRow M 3 1 (.slice (some ⟨g3, 0, none⟩) (le + 1) cap3) (evens (t + 1)).length (natl (evens (t + 1))) := by
              rw [hev, List.length_append, hle, natl_snoc]; exact own3
            have keep3 : w3.ownsRow M 3 1 (.slice Ao lo co) (odds (t + 1)).length (natl (odds (t + 1))) := by
              rw [hod, List.append_nil, hlo]; exact own_fr ho2 fr3 fun q hq h => HS.out.ne q h hq
            go_roundw
            case rel =>
              refine ⟨t + 1, by go_num, hlt, HS.out.next hs2 hbl2 hM2 fr3 (fun q h => (he2.lt q h).1) own3' keep3 fun q h1 h2 => ?_⟩
              have e1 : g3 = q := by simpa [Value.ownBlock] using h1
              subst e1
              rcases hat3 with h3 | h3
              · exact HS.out.ne _ h3 h2
              · have := (ho2.lt _ h2).2; omega
            case measure => simp [intOf]; omega
          · have hb1 : ((t : Int) % 2 == 0) = false := by simp; omega
            go_wp2_with fail
            refine (join_at _ _ _ HS.out.s rfl HJ.out).mono ?_
            rintro e w2 ⟨rfl, hs2, hf2⟩
            have H2 := Lib.hid (HS.out.join hs2 hf2)
            have hM2 : M ≤ w2.heap.size := H2.out.2.2.2.1
            have hown2 := H2.out.2.2.1
            rw [HLE.out.2] at hown2
            clear hs2 hf2
            go_wp2_with (at_builtin; refine wpList_append_one rfl (.tmp 67) (.tmp 69) 28 rfl M 3 i0 _ 8 Try.underlying28 hi0 hz0 hz1 hz2 rfl (.slice Ao lo co) lo _ rfl hown2 w2.heap.size rfl (.int .i64 (t : Int)) rfl rfl (by unfold maxLen; omega) (by omega) hM2 ?_; intro g3 cap3 w3 own3 fr3 hat3 hlt3)
            obtain ⟨hs2, he2, ho2, _, hbl2⟩ := H2.out
            have hev : evens (t + 1) = evens t ++ [] := by rw [evens_succ]; simp [hp]
            have hod : odds (t + 1) = odds t ++ [t] := by rw [odds_succ]; simp [hp]
            obtain ⟨hle, hlo⟩ := HLE.out
            rw [hle] at he2
            rw [hlo] at ho2
            have own3' : w3.ownsRow M 3 1 (.slice (some ⟨g3, 0, none⟩) (lo + 1) cap3) (odds (t + 1)).length (natl (odds (t + 1))) := by
              rw [hod, List.length_append, hlo, natl_snoc]; exact own3
            have keep3 : w3.ownsRow M 3 1 (.slice Ae le ce) (evens (t + 1)).length (natl (evens (t + 1))) := by
              rw [hev, List.append_nil, hle]; exact own_fr he2 fr3 fun q hq h => HS.out.ne q hq h
            go_roundw
            case rel =>
              refine ⟨t + 1, by go_num, hlt, HS.out.next hs2 hbl2 hM2 fr3 (fun q h => (ho2.lt q h).1) keep3 own3' fun q h1 h2 => ?_⟩
              have e1 : g3 = q := by simpa [Value.ownBlock] using h2
              subst e1
              rcases hat3 with h3 | h3
              · exact HS.out.ne _ h1 h3
              · have := (he2.lt _ h1).2; omega
            case measure => simp [intOf]; omega
    · obtain rfl : k = m := by omega
      have HF := Lib.hid (star_facts k hm41 hm2)
      have hsl : (starL k k).length = k := by simp [starL]
      have HSL := Lib.hid hsl
      clear hsl
      obtain ⟨Ae, ce, rfl⟩ := own_form HS.out.e
      obtain ⟨Ao, co, rfl⟩ := own_form HS.out.o
      go_wp2_with fail
      refine (groups_int _ HS.out.s).mono ?_
      rintro e w2 ⟨v, rfl, hl2, hs2, hf2⟩
      have H2 := Lib.hid (And.intro (HS.out.join hs2 hf2) hl2)
      clear hs2 hf2 hl2
      go_wp2_with fail
      have hb3 : Below w2.heap.size w2 (w2.alloc (.cells #[.slice Ae (evens k).length ce, .slice Ao (odds k).length co] 28)) := (Below.refl _ _).alloc (Nat.le_refl _) _
      have hbe : Rd (w2.alloc (.cells #[.slice Ae (evens k).length ce, .slice Ao (odds k).length co] 28)) (fun _ => True) 1 Ae (evens k).length (natl (evens k)) := by
        obtain ⟨A', c', e, h⟩ := Rd.of_own H2.out.1.2.1
        injection e with e1
        subst e1
        exact (h.below hb3).mono (fun _ _ _ => trivial) (by omega)
      have hbo : Rd (w2.alloc (.cells #[.slice Ae (evens k).length ce, .slice Ao (odds k).length co] 28)) (fun _ => True) 1 Ao (odds k).length (natl (odds k)) := by
        obtain ⟨A', c', e, h⟩ := Rd.of_own H2.out.1.2.2.1
        injection e with e1
        subst e1
        exact (h.below hb3).mono (fun _ _ _ => trivial) (by omega)
      rw [natl_zs] at hbe hbo
      refine (lists_at v _ (groupsI (starL k k)) [zs (evens k), zs (odds k)] true _ (by rw [HF.out.1]; simp) (H2.out.2.below hb3) (LL.two (Blk.new _ _ _) trivial hbe hbo) ?_ (by simp) ?_ ?_).mono ?_
      · exact Nat.le_trans (groupsI_len _) (by rw [HSL.out]; omega)
      · exact fun r hr => Nat.le_trans (groupsI_row _ r hr) (by rw [HSL.out]; omega)
      · intro r hr
        have h1 := evens_len k
        have h2 := odds_len k
        simp only [List.mem_cons, List.not_mem_nil, or_false] at hr
        rcases hr with rfl | rfl <;> simp only [zs, List.length_map] <;> omega
      rintro e w3 ⟨rfl, hb4⟩
      have hb5 := below_step hb3 hb4 hb3.size
      have H3 := Lib.hid (And.intro (H2.out.1.1.below hb5) (below_step H2.out.1.2.2.2.2 hb5 H2.out.1.2.2.2.2.size))
      clear hb3 hb4 hb5 hbe hbo
      go_wp2_with fail
      refine (join_at 0 1 _ H3.out.1 HF.out.2.1 rfl).mono ?_
      rintro e w4 ⟨rfl, hs4, hf4⟩
      have H4 := Lib.hid (And.intro hs4 (H3.out.2.trans (hf4.own_below HS.out.sf H3.out.2.size)))
      clear hs4 hf4
      go_wp2_with fail
      refine (known_yes _).mono ?_
      rintro e w5 ⟨rfl, hb5⟩
      have H5 := Lib.hid (And.intro (H4.out.1.below hb5) (below_step H4.out.2 hb5 H4.out.2.size))
      clear hb5
      go_wp2_with fail
      refine (many_at _ H5.out.1 (r := 1) (by rw [HF.out.2.2.1]; rfl)).mono ?_
      rintro e w6 ⟨rfl, rfl⟩
      go_wp2_with fail
      refine (least_at _ _ H5.out.1 HF.out.2.2.2).mono ?_
      rintro e w7 ⟨rfl, hs7, hf7⟩
      have H7 := Lib.hid (H5.out.2.trans (hf7.own_below HS.out.sf H5.out.2.size))
      clear hs7 hf7
      go_wp2_with fail
      go_ret
      exact ⟨rfl, H7.out⟩
end Go.Proofs.Ytogbdilbbofdiaa
