/-
  inst.Without.
-/
import Derived.Test.YteepfhdndhepmaaInI
namespace Go.Proofs.Yteepfhdndhepmaa
open Go.RowKit
attribute [local simp] below_drew_iff

def mapA (left : List Nat) (a : PArc) : PArc := ⟨idxN left a.fr, idxN left a.dt, a.lo, a.ca, a.co⟩
def withoutA (left : List Nat) (l : List PArc) : List PArc := (l.map (mapA left)).filter fun a => decide (0 ≤ a.fr) && decide (0 ≤ a.dt)
def leftN (s : List Int) (nodes : List Bool) : List Nat := keptN nodes (min s.length 1000)
def withoutS (s : List Int) (nodes : List Bool) : List Int := pickL s 0 (leftN s nodes)
def withoutL (s : List Int) (l : List PArc) (nodes arcs : List Bool) : List PArc := withoutA (leftN s nodes) (pickL l arc0 (keptN arcs (min l.length 1000)))
theorem withoutA_step {left : List Nat} {l : List PArc} {k : Nat} {a : PArc} (h : l[k]? = some a) : withoutA left (l.take (k + 1)) = withoutA left (l.take k) ++ if decide (0 ≤ idxN left a.fr) && decide (0 ≤ idxN left a.dt) then [mapA left a] else [] := by
  unfold withoutA
  rw [List.take_add_one, h, List.map_append, List.filter_append]
  congr 1
  simp only [Option.toList_some, List.map_cons, List.map_nil, List.filter_cons, List.filter_nil, mapA]
theorem withoutA_len (left : List Nat) (l : List PArc) : (withoutA left l).length ≤ l.length := by
  unfold withoutA
  exact Nat.le_trans (List.length_filter_le _ _) (by simp)
theorem leftN_lt {s : List Int} {nodes : List Bool} {k : Nat} (h : k ∈ leftN s nodes) : k < s.length := by have := keptN_lt h; omega
theorem leftN_len (s : List Int) (nodes : List Bool) : (leftN s nodes).length ≤ 1000 := by have := keptN_len nodes (min s.length 1000); unfold leftN; omega

def InstPost (w : World) (s : List Int) (l : List PArc) (e : Ending) (w' : World) : Prop := ∃ v, e = .returned v ∧ InstAt w' (fun k => w.heap.size ≤ k ∧ k < w'.heap.size) v s l ∧ Below w.heap.size w w'

theorem own_read7 {w : World} {base n c size : Nat} {e : TypeId} {A : Option Addr} {xs : List Value} (h : w.ownsRow base e size (.slice A n c) n xs) : Rd w (fun k => base ≤ k ∧ k < w.heap.size) size A n xs := by
  obtain ⟨A', c', e', h1⟩ := Rd.of_own h
  injection e' with e1 _ _
  subst e1
  exact h1

set_option maxRecDepth 100000 in
set_option maxHeartbeats 3200000 in
theorem without_any {S T U : Nat → Prop} (v : Value) (s : List Int) (l : List PArc) (N M : Option Addr) (cn cm : Nat) (nodes arcs : List Bool) (w : World) (hv : InstAt w S v s l) (hn : Rd w T 1 N nodes.length (booll nodes)) (hm : Rd w U 1 M arcs.length (booll arcs))
    (h1 : s.length ≤ 100000) (h2 : l.length ≤ 100000) (h3 : nodes.length ≤ maxLen) (h4 : arcs.length ≤ maxLen) :
    Calls Try.prog 14 #[v, .slice N nodes.length cn, .slice M arcs.length cm] w (InstPost w (withoutS s nodes) (withoutL s l nodes arcs)) := by
  obtain ⟨A, c, B, d, rfl, hr1, hr2⟩ := hv
  have HR := Lib.hid (And.intro hr1 (And.intro hr2 (And.intro hn hm)))
  clear hr1 hr2 hn hm
  obtain ⟨i0, hi0, hz0, hz1, hz2⟩ := info_parts arc_info
  have hbl : Below w.heap.size w ((w.alloc (.cells #[.slice A s.length c, .slice B l.length d] 26)).alloc (.cells #[.slice none 0 0, .slice none 0 0] 26)) := two_new w _ _
  have hB1 : Blk ((w.alloc (.cells #[.slice A s.length c, .slice B l.length d] 26)).alloc (.cells #[.slice none 0 0, .slice none 0 0] 26)) w.heap.size 26 #[.slice A s.length c, .slice B l.length d] := (Blk.new _ _ _).alloc _
  have hB2 : Blk ((w.alloc (.cells #[.slice A s.length c, .slice B l.length d] 26)).alloc (.cells #[.slice none 0 0, .slice none 0 0] 26)) (w.heap.size + 1) 26 #[.slice none 0 0, .slice none 0 0] := Blk.new_ (by simp)
  have HB := Lib.hid (And.intro hbl (And.intro hB1 hB2))
  clear hbl hB1 hB2
  have hll := leftN_len s nodes
  go_enter Try.func14, Try.ntmps14
  go_wp2_with fail
  refine (kept_any N cn nodes (s.length : Int) (min s.length 1000) _ (HR.out.2.2.1.below HB.out.1) h3 (by omega) (by omega)).mono ?_
  rintro e w1 ⟨v1, rfl, ⟨A1, c1, rfl, hr1⟩, hb1⟩
  have H1 := Lib.hid (And.intro (below_step HB.out.1 hb1 HB.out.1.size) (And.intro (HB.out.2.1.below hb1 HB.out.2.1.lt) (And.intro (HB.out.2.2.below hb1 HB.out.2.2.lt) hr1)))
  have d0 : w1.cell? ⟨w.heap.size, 0, none⟩ = some (.slice A s.length c) := H1.out.2.1.cell 0
  have hl1 := H1.out.2.2.1.lt
  clear hb1 hr1
  have hlv : ∀ k ∈ leftN s nodes, k < s.length := fun k hk => leftN_lt hk
  have hws : withoutS s nodes = pickL s 0 (leftN s nodes) := rfl
  have hwl : withoutL s l nodes arcs = withoutA (leftN s nodes) (pickL l arc0 (keptN arcs (min l.length 1000))) := rfl
  have hkv : ∀ k ∈ keptN arcs (min l.length 1000), k < l.length := fun k hk => by have := keptN_lt hk; omega
  have hkl : (keptN arcs (min l.length 1000)).length ≤ 1000 := by have := keptN_len arcs (min l.length 1000); omega
  have HW := Lib.hid (And.intro hws (And.intro hwl (And.intro hlv hkv)))
  clear hws hwl hlv hkv
  rw [show keptN nodes (min s.length 1000) = leftN s nodes from rfl] at H1 ⊢
  generalize leftN s nodes = left at *
  go_wp2_with fail
  refine (pick64_any A A1 c c1 s left _ (HR.out.1.below H1.out.1) H1.out.2.2.2 (by unfold maxLen; omega) (by omega) HW.out.2.2.1).mono ?_
  rintro e w2 ⟨v2, rfl, ⟨A2, c2, rfl, hr2⟩, hb2⟩
  have hs1 := H1.out.1.size
  have H2 := Lib.hid (And.intro (below_step H1.out.1 hb2 hs1) (And.intro (H1.out.2.1.below hb2 H1.out.2.1.lt) (And.intro (H1.out.2.2.1.below hb2 hl1) (And.intro (H1.out.2.2.2.below hb2) hr2))))
  have e0 : w2.cell? ⟨w.heap.size, 0, none⟩ = some (.slice A s.length c) := H2.out.2.1.cell 0
  have e1 : w2.cell? ⟨w.heap.size, 1, none⟩ = some (.slice B l.length d) := H2.out.2.1.cell 1
  have hl2 := H2.out.2.2.1.lt
  have hw12 := hb2.size
  clear hb2 hr2 d0
  go_upto_region 3 with fail
  have H3 : Below w.heap.size w (w2.alloc (.cells #[.slice A2 left.length c2, .slice none 0 0] 26)) ∧ Blk (w2.alloc (.cells #[.slice A2 left.length c2, .slice none 0 0] 26)) w.heap.size 26 #[.slice A s.length c, .slice B l.length d] ∧
      Blk (w2.alloc (.cells #[.slice A2 left.length c2, .slice none 0 0] 26)) (w.heap.size + 1) 26 #[.slice none 0 0, .slice none 0 0] ∧ Rd (w2.alloc (.cells #[.slice A2 left.length c2, .slice none 0 0] 26)) (fun q => q < w2.heap.size) 1 A1 left.length (natl left) ∧
      Rd (w2.alloc (.cells #[.slice A2 left.length c2, .slice none 0 0] 26)) (fun q => w.heap.size + 1 < q ∧ q < w2.heap.size) 1 A2 left.length (intl (pickL s 0 left)) ∧ Blk (w2.alloc (.cells #[.slice A2 left.length c2, .slice none 0 0] 26)) w2.heap.size 26 #[.slice A2 left.length c2, .slice none 0 0] ∧
      w2.heap.size < (w2.alloc (.cells #[.slice A2 left.length c2, .slice none 0 0] 26)).heap.size :=
    ⟨H2.out.1.alloc (by omega) _, H2.out.2.1.alloc _, H2.out.2.2.1.alloc _, (H2.out.2.2.2.1.mono (fun q _ hq => by have := hq.2; omega) (by omega)).alloc _, (H2.out.2.2.2.2.mono (fun q _ hq => ⟨by omega, hq.2⟩) (by omega)).alloc _, Blk.new _ _ _, by simp⟩
  generalize (w2.alloc (.cells #[.slice A2 left.length c2, .slice none 0 0] 26)) = w3 at *
  generalize hg8 : w2.heap.size = g8 at *
  have H3 := Lib.hid H3
  clear e0 e1 hg8
  have e1 : w3.cell? ⟨w.heap.size, 1, none⟩ = some (.slice B l.length d) := H3.out.2.1.cell 1
  have b3 : Below w3.heap.size w3 w3 := Below.refl _ _
  have hg3 := H3.out.2.2.2.2.2.2
  go_region_held3 (fun w' => w'.cell? ⟨w.heap.size, 1, none⟩ = some (.slice B l.length d) ∧ Below w3.heap.size w3 w') (go_keep) (first
    | (go_at_call 21
       refine (kept_any M cm arcs (l.length : Int) (min l.length 1000) _ ((HR.out.2.2.2.below H3.out.1).below (by simp [*])) h4 (by omega) (by omega)).mono ?_
       rintro e w4 ⟨v4, rfl, ⟨A4, c4, rfl, hr4⟩, hb4⟩
       obtain ⟨hk1, hk2⟩ := held_step (w := w3) (p := ⟨w.heap.size, 1, none⟩) (by assumption) (by assumption) hb4 (by first | exact .inl rfl | exact .inr rfl))
    | (go_at_call 33
       refine (pickA_any B A4 d c4 l (keptN arcs (min l.length 1000)) _ ((HR.out.2.1.below H3.out.1).below (by simp [*])) hr4 (by unfold maxLen; omega) (by omega) HW.out.2.2.2).mono ?_
       rintro e w5 ⟨v5, rfl, ⟨A5, c5, rfl, hr5⟩, hb5⟩
       obtain ⟨hk3, hk4⟩ := held_step (w := w3) (p := ⟨w.heap.size, 1, none⟩) hk1 hk2 hb5 (.inl rfl)))
  have hs34 := hk2.size
  have hs45 := hb5.size
  have hPl : (pickL l arc0 (keptN arcs (min l.length 1000))).length = (keptN arcs (min l.length 1000)).length := pickL_len _ _ _
  have H5 := Lib.hid (And.intro (below_step H3.out.1 hk4 H3.out.1.size) (And.intro (H3.out.2.2.1.below hk4 H3.out.2.2.1.lt) (And.intro (H3.out.2.2.2.1.below hk4) (And.intro (H3.out.2.2.2.2.1.below hk4) (And.intro (H3.out.2.2.2.2.2.1.below hk4 hg3) (And.intro hr5 hPl))))))
  clear hk1 hk2 hk3 hk4 hb4 hb5 hr4 hr5 hPl b3 e1
  generalize pickL l arc0 (keptN arcs (min l.length 1000)) = P at *
  generalize (keptN arcs (min l.length 1000)).length = n at *
  clear H3 H1 H2 HB HR
  go_wp2_with fail
  go_loopw [10, 30] (fun _ u wr => ∃ (k : Nat) (v : Value), u = .int .i64 k ∧ k ≤ n ∧ wr.ownsRow w5.heap.size 36 5 v (withoutA left (P.take k)).length (arcl (withoutA left (P.take k))) ∧ Blk wr g8 26 #[.slice A2 left.length c2, v] ∧ Fr (fun q => q = g8) w5 wr)
    (fun _ u _ => n - (intOf u).toNat)
  case atStart => exact ⟨0, .slice none 0 0, rfl, Nat.zero_le _, World.ownsRow_nil _ _ _ _, H5.out.2.2.2.2.1, Fr.refl _ _⟩
  case round =>
    obtain ⟨k, v, rfl, hk, hown, hblk, hfr⟩ := hrel
    obtain ⟨A7, a7, rfl⟩ := own_form hown
    have hsz := hfr.size
    have hwl := withoutA_len left (P.take k)
    rw [List.length_take] at hwl
    by_cases hlt : k < n
    · obtain ⟨a, ha⟩ : ∃ a, P[k]? = some a := ⟨_, List.getElem?_eq_getElem (by have := H5.out.2.2.2.2.2.2; omega)⟩
      obtain ⟨B2, O2, rfl, _, f0, f1, f2, f3, f4⟩ := (H5.out.2.2.2.2.2.1.fr hfr (fun q _ h1 h2 => by omega)).arc ha H5.out.2.2.2.2.2.2
      have hrl := H5.out.2.2.1.fr hfr (fun q _ h1 h2 => by omega)
      have H := Lib.hid (And.intro hown (And.intro hblk (And.intro hfr (And.intro hrl ha))))
      have c8 : wr.cell? ⟨g8, 1, none⟩ = some (.slice A7 (withoutA left (P.take k)).length a7) := hblk.cell 1
      have l8 := hblk.lt
      clear hown hblk hfr hrl
      go_upto_region 6 with fail
      have bA : Blk (wr.alloc (.cells #[.int .i64 a.fr, .int .i64 a.dt, .int .i64 a.lo, .int .i64 a.ca, .int .i64 a.co] 36)) wr.heap.size 36 #[.int .i64 a.fr, .int .i64 a.dt, .int .i64 a.lo, .int .i64 a.ca, .int .i64 a.co] := Blk.new _ _ _
      have FA : Below wr.heap.size wr (wr.alloc (.cells #[.int .i64 a.fr, .int .i64 a.dt, .int .i64 a.lo, .int .i64 a.ca, .int .i64 a.co] 36)) := (Below.refl _ _).alloc (Nat.le_refl _) _
      generalize (wr.alloc (.cells #[.int .i64 a.fr, .int .i64 a.dt, .int .i64 a.lo, .int .i64 a.ca, .int .i64 a.co] 36)) = wA at *
      have q0 : wA.cell? ⟨wr.heap.size, 0, none⟩ = some (.int .i64 a.fr) := bA.cell 0
      have q1 : wA.cell? ⟨wr.heap.size, 1, none⟩ = some (.int .i64 a.dt) := bA.cell 1
      have p0 : wA.frozen? ⟨wr.heap.size, 0, none⟩ = false := bA.frozen 0
      have p1 : wA.frozen? ⟨wr.heap.size, 1, none⟩ = false := bA.frozen 1
      have HA := Lib.hid (And.intro bA FA)
      clear bA FA
      go_cut [34] (fun _ wx => Blk wx wr.heap.size 36 #[.int .i64 (idxN left a.fr), .int .i64 (idxN left a.dt), .int .i64 a.lo, .int .i64 a.ca, .int .i64 a.co] ∧ Below wr.heap.size wr wx)
      case first =>
        go_region_with (go_at_call 34; refine (index_any A1 c1 left _ _ (H.out.2.2.2.1.below (by first | exact HA.out.2 | exact HA.out.2.drew)) (by unfold maxLen; omega)).mono ?_; rintro e w9 ⟨rfl, rfl⟩)
        all_goals go_wp2
        all_goals go_meet
        all_goals exact ⟨((HA.out.1.set_ 0 _).set_ 1 _).drew, ((HA.out.2.setCell (Nat.le_refl _) _).setCell (Nat.le_refl _) _).drew⟩
      case rest =>
        obtain ⟨bC, FC⟩ := hcut
        have hstep := withoutA_step (left := left) ha
        have r0 : wc.cell? ⟨wr.heap.size, 0, none⟩ = some (.int .i64 (idxN left a.fr)) := bC.cell 0
        have r1 : wc.cell? ⟨wr.heap.size, 1, none⟩ = some (.int .i64 (idxN left a.dt)) := bC.cell 1
        have r2 : wc.cell? ⟨wr.heap.size, 2, none⟩ = some (.int .i64 a.lo) := bC.cell 2
        have r3 : wc.cell? ⟨wr.heap.size, 3, none⟩ = some (.int .i64 a.ca) := bC.cell 3
        have r4 : wc.cell? ⟨wr.heap.size, 4, none⟩ = some (.int .i64 a.co) := bC.cell 4
        have b8 := H.out.2.1.below FC l8
        have o8 := own_fr H.out.1 (Fr.of_below FC (fun _ => False)) (fun _ _ h => h)
        have c9 : wc.cell? ⟨g8, 1, none⟩ = some (.slice A7 (withoutA left (P.take k)).length a7) := b8.cell 1
        have hszc := FC.size
        have HC := Lib.hid (And.intro b8 (And.intro o8 (And.intro FC hstep)))
        clear q0 q1 p0 p1 f0 f1 f2 f3 f4 c8 bC FC b8 o8 hstep HA
        have skip : (decide (0 ≤ idxN left a.fr) && decide (0 ≤ idxN left a.dt)) = false → ∃ (k' : Nat) (v : Value), Value.int .i64 ((k : Int) + 1) = .int .i64 k' ∧ k' ≤ n ∧ wc.ownsRow w5.heap.size 36 5 v (withoutA left (P.take k')).length (arcl (withoutA left (P.take k'))) ∧ Blk wc g8 26 #[.slice A2 left.length c2, v] ∧ Fr (fun q => q = g8) w5 wc := by
          intro h0
          refine ⟨k + 1, .slice A7 (withoutA left (P.take k)).length a7, by simp, hlt, ?_, HC.out.1, H.out.2.2.1.trans (Fr.of_below HC.out.2.2.1 _)⟩
          rw [HC.out.2.2.2, h0]
          simpa using HC.out.2.1
        have SK := Lib.hid skip
        clear skip
        cases hi1 : decide (0 ≤ idxN left a.fr)
        · have hi1' : ¬ 0 ≤ idxN left a.fr := by simpa using hi1
          have S2 := Lib.hid (SK.out (by rw [hi1, Bool.false_and]))
          clear SK
          generalize idxN left a.fr = x at *
          generalize idxN left a.dt = y at *
          generalize (withoutA left (P.take k)).length = nw at *
          go_wp2_with fail
          go_roundw
          case rel => exact S2.out
          case measure => simp [intOf]; omega
        cases hi2 : decide (0 ≤ idxN left a.dt)
        · have hi2' : ¬ 0 ≤ idxN left a.dt := by simpa using hi2
          have hi1' : 0 ≤ idxN left a.fr := by simpa using hi1
          have S2 := Lib.hid (SK.out (by rw [hi2, Bool.and_false]))
          clear SK
          generalize idxN left a.fr = x at *
          generalize idxN left a.dt = y at *
          generalize (withoutA left (P.take k)).length = nw at *
          go_wp2_with fail
          go_roundw
          case rel => exact S2.out
          case measure => simp [intOf]; omega
        · have hi2' : 0 ≤ idxN left a.dt := by simpa using hi2
          have hi1' : 0 ≤ idxN left a.fr := by simpa using hi1
          have hst : withoutA left (P.take (k + 1)) = withoutA left (P.take k) ++ [mapA left a] := by rw [HC.out.2.2.2, hi1, hi2]; rfl
          have HS := Lib.hid hst
          have h63 : (withoutA left (P.take k)).length + 1 ≤ maxLen := by unfold maxLen; omega
          have hby : ((withoutA left (P.take k)).length + 1) * 40 ≤ 140737488355328 := by omega
          have hbs : w5.heap.size ≤ wc.heap.size := by omega
          have hgo : ∀ (w9 : World) g cap, w9.ownsRow w5.heap.size 36 5 (.slice (some ⟨g, 0, none⟩) ((withoutA left (P.take k)).length + 1) cap) ((withoutA left (P.take k)).length + 1) (arcl (withoutA left (P.take k)) ++ [.int .i64 (idxN left a.fr), .int .i64 (idxN left a.dt), .int .i64 a.lo, .int .i64 a.ca, .int .i64 a.co]) →
              w9.ownsRow w5.heap.size 36 5 (.slice (some ⟨g, 0, none⟩) ((withoutA left (P.take k)).length + 1) cap) (withoutA left (P.take (k + 1))).length (arcl (withoutA left (P.take (k + 1)))) := by
            intro w9 g cap h
            rw [HS.out, arcl_snoc, List.length_append]
            exact h
          have HG := Lib.hid hgo
          clear hgo hst SK
          generalize idxN left a.fr = x at *
          generalize idxN left a.dt = y at *
          generalize hnw : (withoutA left (P.take k)).length = nw at *
          clear hnw
          go_wp2_with (first
            | (at_builtin
               refine wpList_append_rec rfl (.tmp 53) (.tmp 55) 24 rfl w5.heap.size 36 i0 _ 5 40 Try.underlying24 hi0 hz0 hz1 hz2 rfl (by omega) (.slice A7 nw a7) nw _ rfl HC.out.2.1 wc.heap.size rfl _ rfl rfl (by simp [Value.oneCell']) h63 hby hbs ?_
               intro g cap w9 own9 fr9 hat9 hlt9
               have hng : ∀ q, (Value.slice A7 nw a7).ownBlock = some q → w5.heap.size ≤ q := fun q e => (HC.out.2.1.lt q e).1
               have b9 := HC.out.1.fr fr9 (fun e => by have := hng _ e; omega)
               have z9 : w9.cell? ⟨g8, 1, none⟩ = some (.slice A7 nw a7) := b9.cell 1
               have y9 : w9.frozen? ⟨g8, 1, none⟩ = false := b9.frozen 1
               have F9 := Fr.trans' (H.out.2.2.1.trans (Fr.of_below HC.out.2.2.1 _)) fr9 (T := fun q => (Value.slice A7 nw a7).ownBlock = some q) (fun q hq e => by have := hng _ e; omega)
               have H9 := Lib.hid (And.intro own9 (And.intro b9 F9))
               clear own9 b9 F9 fr9 hng))
          go_roundw
          case rel =>
            refine ⟨k + 1, .slice (some ⟨g, 0, none⟩) (nw + 1) cap, by go_num, hlt, ?_, H9.out.2.1.set_ 1 _, H9.out.2.2.setCell (.inl rfl) _⟩
            refine ownsRow_setCell_below ?_ (by show g8 < w5.heap.size; omega) _
            exact HG.out _ _ _ H9.out.1
          case measure => simp [intOf]; omega
    · obtain rfl : k = n := by omega
      rw [List.take_of_length_le (by have := H5.out.2.2.2.2.2.2; omega)] at hown hblk
      have hB2 := H5.out.2.1.fr hfr (by omega)
      have c8 : wr.cell? ⟨g8, 0, none⟩ = some (.slice A2 left.length c2) := hblk.cell 0
      have c9 : wr.cell? ⟨g8, 1, none⟩ = some (.slice A7 (withoutA left P).length a7) := hblk.cell 1
      have q0 : wr.cell? ⟨w.heap.size + 1, 0, none⟩ = some (.slice none 0 0) := hB2.cell 0
      have q1 : wr.cell? ⟨w.heap.size + 1, 1, none⟩ = some (.slice none 0 0) := hB2.cell 1
      have p0 : wr.frozen? ⟨w.heap.size + 1, 0, none⟩ = false := hB2.frozen 0
      have p1 : wr.frozen? ⟨w.heap.size + 1, 1, none⟩ = false := hB2.frozen 1
      have hr2 := H5.out.2.2.2.1.fr hfr (fun q _ h1 h2 => by omega)
      have hl8 := hblk.lt
      have hb8 : Below w.heap.size w wr := H5.out.1.trans (hfr.below (B := w.heap.size) (fun q hq _ e => by omega) (by omega))
      have fin : ∀ w9 : World, w9 = (wr.setCell ⟨w.heap.size + 1, 0, none⟩ (.slice A2 left.length c2)).setCell ⟨w.heap.size + 1, 1, none⟩ (.slice A7 (withoutA left P).length a7) →
          InstPost w (withoutS s nodes) (withoutL s l nodes arcs) (.returned (.agg #[.slice A2 left.length c2, .slice A7 (withoutA left P).length a7])) w9 := by
        rintro w9 rfl
        rw [HW.out.1, HW.out.2.1]
        refine ⟨_, rfl, ⟨A2, c2, A7, a7, by rw [pickL_len], ?_, ?_⟩, (hb8.setCell (by simp) _).setCell (by simp) _⟩
        · rw [pickL_len]
          have hx := ((hr2.mono (T := fun q => w.heap.size ≤ q ∧ q < wr.heap.size ∧ q ≠ w.heap.size + 1) ?_ (by omega)).setCell (p := ⟨w.heap.size + 1, 0, none⟩) (fun h => h.2.2 rfl) (.slice A2 left.length c2)).setCell (p := ⟨w.heap.size + 1, 1, none⟩) (fun h => h.2.2 rfl) (.slice A7 (withoutA left P).length a7)
          · exact hx.mono (fun q _ hq => ⟨hq.1, by simpa using hq.2.1⟩) (by omega)
          · exact fun q _ hq => ⟨by omega, by omega, by omega⟩
        · have hx := (((own_read7 hown).mono (T := fun q => w5.heap.size ≤ q ∧ q < wr.heap.size) (fun q _ hq => hq) (by omega)).setCell (p := ⟨w.heap.size + 1, 0, none⟩) (fun h => by have := h.1; simp at this; omega) (.slice A2 left.length c2)).setCell (p := ⟨w.heap.size + 1, 1, none⟩) (fun h => by have := h.1; simp at this; omega) (.slice A7 (withoutA left P).length a7)
          exact hx.mono (fun q _ hq => ⟨by have := hq.1; omega, by simpa using hq.2⟩) (by omega)
      have FIN := Lib.hid (fin _ rfl)
      clear fin hr2 hb8 hown hblk hfr hB2
      generalize (withoutA left P).length = nw at *
      go_wp2
      refine bodyPost_ret (v := .agg #[.slice A2 left.length c2, .slice A7 nw a7]) (by simp [results, Try.results14, go_sem, *]) rfl FIN.out
end Go.Proofs.Yteepfhdndhepmaa
