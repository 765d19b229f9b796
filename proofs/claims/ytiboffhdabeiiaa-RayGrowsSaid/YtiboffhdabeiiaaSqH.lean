/-
  Instances made of bytes: Inst; by symbolic steps.
-/
import Derived.Test.YtiboffhdabeiiaaSqG
namespace Go.Proofs.Ytiboffhdabeiiaa
open Go Go.RowKit
def moveS (s : List Int) (i j : Nat) (x : Int) : List Int := (s.set i (s.getD i 0 + x)).set j ((s.set i (s.getD i 0 + x)).getD j 0 - x)
def bndS (s : List Int) (b : Int) : Prop := ∀ v ∈ s, -b ≤ v ∧ v ≤ b
theorem moveS_len (s : List Int) (i j : Nat) (x : Int) : (moveS s i j x).length = s.length := by simp [moveS]
theorem moveS_eq {s : List Int} {i j : Nat} {x u v : Int} (h : s[i]? = some u) (h2 : (s.set i (u + x))[j]? = some v) : moveS s i j x = (s.set i (u + x)).set j (v - x) := by
  unfold moveS
  rw [getD_at h, getD_at h2]
theorem bndS_set {s : List Int} {b v : Int} {i : Nat} (h : bndS s b) (hv : -b ≤ v ∧ v ≤ b) : bndS (s.set i v) b := by
  intro u hu
  rcases List.mem_or_eq_of_mem_set hu with h1 | rfl
  · exact h u h1
  · exact hv
theorem bndS_mono {s : List Int} {b c : Int} (h : bndS s b) (hc : b ≤ c) : bndS s c := fun u hu => by have := h u hu; omega
/-- What such a move reads, and leaves. -/
theorem moveS_at {s : List Int} {i j : Nat} {x b : Int} (hi : i < s.length) (hj : j < s.length) (h : bndS s b) (hx : 0 ≤ x ∧ x ≤ 5) (_hb : 0 ≤ b) :
    ∃ u v, s[i]? = some u ∧ (s.set i (u + x))[j]? = some v ∧ moveS s i j x = (s.set i (u + x)).set j (v - x) ∧ (-b ≤ u ∧ u ≤ b) ∧ (-(b + 5) ≤ v ∧ v ≤ b + 5) ∧ bndS (moveS s i j x) (b + 10) := by
  obtain ⟨u, hu⟩ := at_ hi
  obtain ⟨v, hv⟩ := at_ (l := s.set i (u + x)) (k := j) (by simpa using hj)
  have h1 := h u (List.mem_of_getElem? hu)
  have h2 : bndS (s.set i (u + x)) (b + 5) := bndS_set (bndS_mono h (by omega)) (by omega)
  have h3 := h2 v (List.mem_of_getElem? hv)
  refine ⟨u, v, hu, hv, moveS_eq hu hv, h1, h3, ?_⟩
  rw [moveS_eq hu hv]
  exact bndS_set (bndS_mono h2 (by omega)) (by omega)
def xOf (d : List Nat) (a : PArc) (k : Nat) : Int := if k + 1 < d.length then min (a.lo + ((d.getD (k + 1) 0 : Nat) : Int) % 4) a.ca else a.lo
def supTo (d : List Nat) (l : List PArc) (n : Nat) : Nat → List Int
  | 0 => List.replicate n 0
  | k + 1 => moveS (supTo d l n k) (l.getD k arcZ).fr.toNat (l.getD k arcZ).dt.toNat (xOf d (l.getD k arcZ) k)
theorem supTo_len (d : List Nat) (l : List PArc) (n : Nat) : ∀ k, (supTo d l n k).length = n
  | 0 => by simp [supTo]
  | k + 1 => by rw [supTo, moveS_len, supTo_len d l n k]
theorem supTo_step {d : List Nat} {l : List PArc} {n k : Nat} {a : PArc} (h : l[k]? = some a) : supTo d l n (k + 1) = moveS (supTo d l n k) a.fr.toNat a.dt.toNat (xOf d a k) := by
  rw [supTo, getD_at h]
def nOf (d : List Nat) : Nat := if 0 < d.length then 1 + d.getD 0 0 % 7 else 1
theorem nOf_range (d : List Nat) : 0 < nOf d ∧ nOf d ≤ 7 := by unfold nOf; split <;> omega
def instS (c d : List Nat) : List Int :=
  let s := supTo d (arcsN c (nOf d)) (nOf d) (arcsN c (nOf d)).length
  if 1 < d.length ∧ d.getD (d.length - 1) 0 % 5 = 0 then moveS s 0 (nOf d - 1) (((d.getD 1 0 : Nat) : Int) % 3) else s
theorem instS_def (c d : List Nat) : instS c d = if 1 < d.length ∧ d.getD (d.length - 1) 0 % 5 = 0 then moveS (supTo d (arcsN c (nOf d)) (nOf d) (arcsN c (nOf d)).length) 0 (nOf d - 1) (((d.getD 1 0 : Nat) : Int) % 3) else supTo d (arcsN c (nOf d)) (nOf d) (arcsN c (nOf d)).length := rfl
theorem instS_len (c d : List Nat) : (instS c d).length = nOf d := by
  unfold instS
  dsimp only
  split
  · rw [moveS_len, supTo_len]
  · rw [supTo_len]
theorem arcsN_mem {c : List Nat} {n : Int} {a : PArc} (hn : 0 < n) (h : a ∈ arcsN c n) : (0 ≤ a.fr ∧ a.fr < n) ∧ (0 ≤ a.dt ∧ a.dt < n) ∧ (0 ≤ a.lo ∧ a.lo ≤ 2) ∧ (0 ≤ a.ca ∧ a.ca ≤ 4611686018427387904) ∧ a.lo ≤ a.ca ∧ (-8 ≤ a.co ∧ a.co ≤ 12) := by
  unfold arcsN arcsTo at h
  simp only [List.mem_map, List.mem_range] at h
  obtain ⟨k, _, rfl⟩ := h
  unfold arcAt arcOf
  generalize c.getD (4 * k) 0 = b0
  generalize c.getD (4 * k + 1) 0 = b1
  generalize c.getD (4 * k + 2) 0 = b2
  generalize c.getD (4 * k + 3) 0 = b3
  refine ⟨⟨Int.emod_nonneg _ (by omega), Int.emod_lt_of_pos _ hn⟩, ⟨Int.emod_nonneg _ (by omega), Int.emod_lt_of_pos _ hn⟩, ?_, ?_, ?_, ?_⟩ <;> dsimp only <;> (repeat' split) <;> omega
theorem arcsN_len (c : List Nat) (n : Int) : (arcsN c n).length ≤ 18 := by
  unfold arcsN
  rw [arcsTo_len]
  unfold arcsQ
  omega
theorem inst_s (c d : List Nat) (hc : ∀ x ∈ c, x < 256) (hd : ∀ x ∈ d, x < 256) (h1 : c.length ≤ 9223372036854775807) (h2 : d.length ≤ 9223372036854775807) : Spec Try.prog 23 [.a 1000 c.length, .a 1001 d.length] [(1000, .ro eByt c), (1001, .ro eByt d)]
    (.agg [.a 2000 (instS c d).length, .a 2001 (arcsN c (nOf d)).length]) [(2000, .own 2 eInt (instS c d)), (2001, .own 44 eArc (arcsN c (nOf d)))] := by
  have hn := nOf_range d
  rw [instS_len]
  refine Spec.mk [] Try.call23 Try.func23 Try.ntmps23 Try.results23 rfl (by kernel_rfl) (by kernel_rfl) ?_
  (repeat (first | apply TL.seq | ((first | apply TL.pl | apply TL.dr _ (by kernel_rfl)); (repeat (first | (apply RX.kN; refine RX.x OpA rfl ?_) | (apply RX.kG; first | refine RX.y rfl rfl rfl GdA OpA ?_ | refine RX.n rfl rfl rfl GdA rfl rfl ?_ | refine RX.nU rfl rfl rfl rfl rfl ?_ | refine RX.nS rfl rfl rfl GdA rfl ?_))); (try apply RX.nil _ (by kernel_rfl))) | (apply TL.kC; first | refine TL.condT rfl DecT ?_ | refine TL.condF rfl DecF ?_ | refine TL.condT rfl BoT ?_ | refine TL.condF rfl BoF ?_) | apply TL.block | apply TL.endB | apply TL.exit rfl | apply TL.exitOut rfl | apply TL.ret | apply TL.skip | apply TL.nil | apply loopK.exit rfl | apply loopK.ret | apply loopK.exitOut rfl))
  refine TL.cut (X := Unit) (fun _ => ⟨[(0, .a 1000 c.length), (1, .a 1001 d.length), (4, .p 4 0), (5, iv (nOf d))], [(1000, .ro eByt c), (1001, .ro eByt d), (4, .cells 25 [.v (.slice none 0 0), .v (.slice none 0 0)])]⟩) (fun _ => True) ?_ ?_
  · by_cases h0 : 0 < d.length
    · obtain ⟨b, e, f⟩ := byte_at hd h0
      have hnd : nOf d = 1 + b % 7 := by unfold nOf; rw [if_pos h0, getD_at e]
      (repeat (first | apply TL.seq | ((first | apply TL.pl | apply TL.dr _ (by kernel_rfl)); (repeat (first | (apply RX.kN; refine RX.x OpA rfl ?_) | (apply RX.kG; first | refine RX.y rfl rfl rfl GdA OpA ?_ | refine RX.n rfl rfl rfl GdA rfl rfl ?_ | refine RX.nU rfl rfl rfl rfl rfl ?_ | refine RX.nS rfl rfl rfl GdA rfl ?_))); (try apply RX.nil _ (by kernel_rfl))) | (apply TL.kC; first | refine TL.condT rfl DecT ?_ | refine TL.condF rfl DecF ?_ | refine TL.condT rfl BoT ?_ | refine TL.condF rfl BoF ?_) | apply TL.block | apply TL.endB | apply TL.exit rfl | apply TL.exitOut rfl | apply TL.ret | apply TL.skip | apply TL.nil | apply loopK.exit rfl | apply loopK.ret | apply loopK.exitOut rfl))
      exact loopK.normal ⟨(), _, trivial, LeI (by rw [hnd]; exact LeSA)⟩
    · have hnd : nOf d = 1 := by unfold nOf; rw [if_neg h0]
      (repeat (first | apply TL.seq | ((first | apply TL.pl | apply TL.dr _ (by kernel_rfl)); (repeat (first | (apply RX.kN; refine RX.x OpA rfl ?_) | (apply RX.kG; first | refine RX.y rfl rfl rfl GdA OpA ?_ | refine RX.n rfl rfl rfl GdA rfl rfl ?_ | refine RX.nU rfl rfl rfl rfl rfl ?_ | refine RX.nS rfl rfl rfl GdA rfl ?_))); (try apply RX.nil _ (by kernel_rfl))) | (apply TL.kC; first | refine TL.condT rfl DecT ?_ | refine TL.condF rfl DecF ?_ | refine TL.condT rfl BoT ?_ | refine TL.condF rfl BoF ?_) | apply TL.block | apply TL.endB | apply TL.exit rfl | apply TL.exitOut rfl | apply TL.ret | apply TL.skip | apply TL.nil | apply loopK.exit rfl | apply loopK.ret | apply loopK.exitOut rfl))
      exact loopK.normal ⟨(), _, trivial, LeI (by rw [hnd]; exact LeSA)⟩
  rintro _ -
  have hA := fun a h => arcsN_mem (c := c) (n := nOf d) (a := a) (by omega) h
  have hL := arcsN_len c (nOf d)
  have hI := instS_def c d
  have hs := supTo_len d (arcsN c (nOf d)) (nOf d)
  (repeat (first | apply TL.seq | ((first | apply TL.pl | apply TL.dr _ (by kernel_rfl)); (repeat (first | (apply RX.kN; refine RX.x OpA rfl ?_) | (apply RX.kG; first | refine RX.y rfl rfl rfl GdA OpA ?_ | refine RX.n rfl rfl rfl GdA rfl rfl ?_ | refine RX.nU rfl rfl rfl rfl rfl ?_ | refine RX.nS rfl rfl rfl GdA rfl ?_))); (try apply RX.nil _ (by kernel_rfl))) | (apply TL.kC; first | refine TL.condT rfl DecT ?_ | refine TL.condF rfl DecF ?_ | refine TL.condT rfl BoT ?_ | refine TL.condF rfl BoF ?_) | apply TL.block | apply TL.endB | apply TL.exit rfl | apply TL.exitOut rfl | apply TL.ret | apply TL.skip | apply TL.nil | apply loopK.exit rfl | apply loopK.ret | apply loopK.exitOut rfl))
  refine RX.x (OpR.callP (arcs_s c (nOf d) hc h1 (by omega)) (sg [(1000, 1000), (2000, 24)]) LeA (.a 24 _) [(24, .own _ _ _)]) rfl ?_
  ((repeat (first | (apply RX.kN; refine RX.x OpA rfl ?_) | (apply RX.kG; first | refine RX.y rfl rfl rfl GdA OpA ?_ | refine RX.n rfl rfl rfl GdA rfl rfl ?_ | refine RX.nU rfl rfl rfl rfl rfl ?_ | refine RX.nS rfl rfl rfl GdA rfl ?_))); (try apply RX.nil _ (by kernel_rfl)); repeat (first | apply TL.seq | ((first | apply TL.pl | apply TL.dr _ (by kernel_rfl)); (repeat (first | (apply RX.kN; refine RX.x OpA rfl ?_) | (apply RX.kG; first | refine RX.y rfl rfl rfl GdA OpA ?_ | refine RX.n rfl rfl rfl GdA rfl rfl ?_ | refine RX.nU rfl rfl rfl rfl rfl ?_ | refine RX.nS rfl rfl rfl GdA rfl ?_))); (try apply RX.nil _ (by kernel_rfl))) | (apply TL.kC; first | refine TL.condT rfl DecT ?_ | refine TL.condF rfl DecF ?_ | refine TL.condT rfl BoT ?_ | refine TL.condF rfl BoF ?_) | apply TL.block | apply TL.endB | apply TL.exit rfl | apply TL.exitOut rfl | apply TL.ret | apply TL.skip | apply TL.nil | apply loopK.exit rfl | apply loopK.ret | apply loopK.exitOut rfl))
  have hA2 : ∀ a ∈ arcsN c (nOf d), _ := hA
  clear hA
  generalize arcsN c (nOf d) = l at *
  refine TL.loop (X := Nat) (fun k => ⟨[(1, .a 1001 d.length), (4, .p 4 0), (5, iv (nOf d)), (6, .p 6 0), (7, iv k)], [(1000, .ro eByt c), (1001, .ro eByt d), (4, .cells 25 [.v (.slice none 0 0), .v (.slice none 0 0)]), (6, .cells 25 [.a 21 (nOf d), .a 24 l.length]), (21, .own 2 eInt (supTo d l (nOf d) k)), (24, .own 44 eArc l)]⟩) (fun k => k ≤ l.length ∧ bndS (supTo d l (nOf d) k) (10 * k)) (fun k => l.length - k) 0 ⟨by omega, ?_⟩ LeI ?_
  · intro v hv
    have := List.eq_of_mem_replicate hv
    omega
  rintro k ⟨hk, hbn⟩
  by_cases hlt : k < l.length
  · obtain ⟨a, ha⟩ := at_ hlt
    obtain ⟨⟨f1, f2⟩, ⟨f3, f4⟩, ⟨f5, f6⟩, ⟨f7, f8⟩, f9, _⟩ := hA2 a (List.mem_of_getElem? ha)
    (repeat (first | apply TL.seq | ((first | apply TL.pl | apply TL.dr _ (by kernel_rfl)); (repeat (first | (apply RX.kN; refine RX.x OpA rfl ?_) | (apply RX.kG; first | refine RX.y rfl rfl rfl GdA OpA ?_ | refine RX.n rfl rfl rfl GdA rfl rfl ?_ | refine RX.nU rfl rfl rfl rfl rfl ?_ | refine RX.nS rfl rfl rfl GdA rfl ?_))); (try apply RX.nil _ (by kernel_rfl))) | (apply TL.kC; first | refine TL.condT rfl DecT ?_ | refine TL.condF rfl DecF ?_ | refine TL.condT rfl BoT ?_ | refine TL.condF rfl BoF ?_) | apply TL.block | apply TL.endB | apply TL.exit rfl | apply TL.exitOut rfl | apply TL.ret | apply TL.skip | apply TL.nil | apply loopK.exit rfl | apply loopK.ret | apply loopK.exitOut rfl))
    refine TL.cut (X := Unit) (fun _ => ⟨[(1, .a 1001 d.length), (4, .p 4 0), (5, iv (nOf d)), (6, .p 6 0), (7, iv k), (8, .p 8 0), (9, iv (xOf d a k))], [(1000, .ro eByt c), (1001, .ro eByt d), (4, .cells 25 [.v (.slice none 0 0), .v (.slice none 0 0)]), (6, .cells 25 [.a 21 (nOf d), .a 24 l.length]), (8, .cells 44 [iv a.fr, iv a.dt, iv a.lo, iv a.ca, iv a.co]), (21, .own 2 eInt (supTo d l (nOf d) k)), (24, .own 44 eArc l)]⟩) (fun _ => True) ?_ ?_
    · by_cases h0 : k + 1 < d.length
      · obtain ⟨b, e, f⟩ := byte_at hd h0
        have hxd : xOf d a k = min (a.lo + (b : Int) % 4) a.ca := by unfold xOf; rw [if_pos h0, getD_at e]
        have e' : d[((k : Int) + 1).toNat]? = some b := e
        (repeat (first | apply TL.seq | ((first | apply TL.pl | apply TL.dr _ (by kernel_rfl)); (repeat (first | (apply RX.kN; refine RX.x OpA rfl ?_) | (apply RX.kG; first | refine RX.y rfl rfl rfl GdA OpA ?_ | refine RX.n rfl rfl rfl GdA rfl rfl ?_ | refine RX.nU rfl rfl rfl rfl rfl ?_ | refine RX.nS rfl rfl rfl GdA rfl ?_))); (try apply RX.nil _ (by kernel_rfl))) | (apply TL.kC; first | refine TL.condT rfl DecT ?_ | refine TL.condF rfl DecF ?_ | refine TL.condT rfl BoT ?_ | refine TL.condF rfl BoF ?_) | apply TL.block | apply TL.endB | apply TL.exit rfl | apply TL.exitOut rfl | apply TL.ret | apply TL.skip | apply TL.nil | apply loopK.exit rfl | apply loopK.ret | apply loopK.exitOut rfl))
        exact loopK.normal ⟨(), _, trivial, LeI (by rw [hxd]; exact LeSA)⟩
      · have hxd : xOf d a k = a.lo := by unfold xOf; rw [if_neg h0]
        (repeat (first | apply TL.seq | ((first | apply TL.pl | apply TL.dr _ (by kernel_rfl)); (repeat (first | (apply RX.kN; refine RX.x OpA rfl ?_) | (apply RX.kG; first | refine RX.y rfl rfl rfl GdA OpA ?_ | refine RX.n rfl rfl rfl GdA rfl rfl ?_ | refine RX.nU rfl rfl rfl rfl rfl ?_ | refine RX.nS rfl rfl rfl GdA rfl ?_))); (try apply RX.nil _ (by kernel_rfl))) | (apply TL.kC; first | refine TL.condT rfl DecT ?_ | refine TL.condF rfl DecF ?_ | refine TL.condT rfl BoT ?_ | refine TL.condF rfl BoF ?_) | apply TL.block | apply TL.endB | apply TL.exit rfl | apply TL.exitOut rfl | apply TL.ret | apply TL.skip | apply TL.nil | apply loopK.exit rfl | apply loopK.ret | apply loopK.exitOut rfl))
        exact loopK.normal ⟨(), _, trivial, LeI (by rw [hxd]; exact LeSA)⟩
    rintro _ -
    have hx : 0 ≤ xOf d a k ∧ xOf d a k ≤ 5 := by unfold xOf; split <;> omega
    have hst := supTo_step (d := d) (n := nOf d) ha
    have hsk := hs k
    generalize xOf d a k = x at *
    generalize supTo d l (nOf d) k = S at *
    obtain ⟨u, v, hu, hv, hm, hu2, hv2, hb2⟩ := moveS_at (s := S) (i := a.fr.toNat) (j := a.dt.toNat) (x := x) (by omega) (by omega) hbn hx (by omega)
    have hsl : (S.set a.fr.toNat (u + x)).length = nOf d := by rw [List.length_set]; exact hsk
    (repeat (first | apply TL.seq | ((first | apply TL.pl | apply TL.dr _ (by kernel_rfl)); (repeat (first | (apply RX.kN; refine RX.x OpA rfl ?_) | (apply RX.kG; first | refine RX.y rfl rfl rfl GdA OpA ?_ | refine RX.n rfl rfl rfl GdA rfl rfl ?_ | refine RX.nU rfl rfl rfl rfl rfl ?_ | refine RX.nS rfl rfl rfl GdA rfl ?_))); (try apply RX.nil _ (by kernel_rfl))) | (apply TL.kC; first | refine TL.condT rfl DecT ?_ | refine TL.condF rfl DecF ?_ | refine TL.condT rfl BoT ?_ | refine TL.condF rfl BoF ?_) | apply TL.block | apply TL.endB | apply TL.exit rfl | apply TL.exitOut rfl | apply TL.ret | apply TL.skip | apply TL.nil | apply loopK.exit rfl | apply loopK.ret | apply loopK.exitOut rfl))
    exact loopK.normal ⟨k + 1, _, ⟨hlt, by rw [hst]; exact bndS_mono hb2 (by omega)⟩, by omega, LeI LeSA (by rw [hst, hm]; exact LeA)⟩
  · have hkl : k = l.length := by omega
    subst hkl
    have hsk := hs l.length
    generalize supTo d l (nOf d) l.length = S at *
    by_cases h0 : 1 < d.length
    · obtain ⟨b, e, f⟩ := byte_at hd (k := d.length - 1) (by omega)
      obtain ⟨b1, e1, _⟩ := byte_at hd h0
      have e' : d[((d.length : Int) - 1).toNat]? = some b := by rw [← e]; congr 1; omega
      rw [getD_at e] at hI
      by_cases h5 : b % 5 = 0
      · rw [if_pos ⟨h0, h5⟩, getD_at e1] at hI
        have hj : ((nOf d : Int) - 1).toNat = nOf d - 1 := by omega
        obtain ⟨u, v, hu, hv, hm, hu2, hv2, hb2⟩ := moveS_at (s := S) (i := Int.toNat 0) (j := ((nOf d : Int) - 1).toNat) (x := (b1 : Int) % 3) (by simp; omega) (by omega) hbn (by omega) (by omega)
        have hsl : (S.set (Int.toNat 0) (u + (b1 : Int) % 3)).length = nOf d := by rw [List.length_set]; exact hsk
        have hI' : instS c d = (S.set (Int.toNat 0) (u + (b1 : Int) % 3)).set ((nOf d : Int) - 1).toNat (v - (b1 : Int) % 3) := by rw [hI, ← hm, hj]; rfl
        rw [hI']
        (repeat (first | apply TL.seq | ((first | apply TL.pl | apply TL.dr _ (by kernel_rfl)); (repeat (first | (apply RX.kN; refine RX.x OpA rfl ?_) | (apply RX.kG; first | refine RX.y rfl rfl rfl GdA OpA ?_ | refine RX.n rfl rfl rfl GdA rfl rfl ?_ | refine RX.nU rfl rfl rfl rfl rfl ?_ | refine RX.nS rfl rfl rfl GdA rfl ?_))); (try apply RX.nil _ (by kernel_rfl))) | (apply TL.kC; first | refine TL.condT rfl DecT ?_ | refine TL.condF rfl DecF ?_ | refine TL.condT rfl BoT ?_ | refine TL.condF rfl BoF ?_) | apply TL.block | apply TL.endB | apply TL.exit rfl | apply TL.exitOut rfl | apply TL.ret | apply TL.skip | apply TL.nil | apply loopK.exit rfl | apply loopK.ret | apply loopK.exitOut rfl))
        exact retK.ag (sg [(2000, 21), (2001, 24)]) rfl LeA
      · rw [if_neg (fun h => h5 h.2)] at hI
        rw [hI]
        (repeat (first | apply TL.seq | ((first | apply TL.pl | apply TL.dr _ (by kernel_rfl)); (repeat (first | (apply RX.kN; refine RX.x OpA rfl ?_) | (apply RX.kG; first | refine RX.y rfl rfl rfl GdA OpA ?_ | refine RX.n rfl rfl rfl GdA rfl rfl ?_ | refine RX.nU rfl rfl rfl rfl rfl ?_ | refine RX.nS rfl rfl rfl GdA rfl ?_))); (try apply RX.nil _ (by kernel_rfl))) | (apply TL.kC; first | refine TL.condT rfl DecT ?_ | refine TL.condF rfl DecF ?_ | refine TL.condT rfl BoT ?_ | refine TL.condF rfl BoF ?_) | apply TL.block | apply TL.endB | apply TL.exit rfl | apply TL.exitOut rfl | apply TL.ret | apply TL.skip | apply TL.nil | apply loopK.exit rfl | apply loopK.ret | apply loopK.exitOut rfl))
        exact retK.ag (sg [(2000, 21), (2001, 24)]) rfl LeA
    · rw [if_neg (fun h => h0 h.1)] at hI
      rw [hI]
      (repeat (first | apply TL.seq | ((first | apply TL.pl | apply TL.dr _ (by kernel_rfl)); (repeat (first | (apply RX.kN; refine RX.x OpA rfl ?_) | (apply RX.kG; first | refine RX.y rfl rfl rfl GdA OpA ?_ | refine RX.n rfl rfl rfl GdA rfl rfl ?_ | refine RX.nU rfl rfl rfl rfl rfl ?_ | refine RX.nS rfl rfl rfl GdA rfl ?_))); (try apply RX.nil _ (by kernel_rfl))) | (apply TL.kC; first | refine TL.condT rfl DecT ?_ | refine TL.condF rfl DecF ?_ | refine TL.condT rfl BoT ?_ | refine TL.condF rfl BoF ?_) | apply TL.block | apply TL.endB | apply TL.exit rfl | apply TL.exitOut rfl | apply TL.ret | apply TL.skip | apply TL.nil | apply loopK.exit rfl | apply loopK.ret | apply loopK.exitOut rfl))
      exact retK.ag (sg [(2000, 21), (2001, 24)]) rfl LeA
end Go.Proofs.Ytiboffhdabeiiaa
