/-
  The symbolic state: drawn regions in the text's order; control. Plain lemmas over any program.
-/
import Derived.Test.YtiboffhdabeiiaaSxH
import Derived.Control
import Derived.Scope
namespace Go.Proofs.Ytiboffhdabeiiaa
open Go Go.RowKit

def ancOf (acc : List (List Nat)) (o : Oper) : List Nat := ((o.after.toList.filter fun e => Region.binds .any e).flatMap fun e => e.on :: acc.getD e.on []).eraseDups
def ancsGo : List (List Nat) → List Oper → List (List Nat)
  | acc, [] => acc
  | acc, o :: l => ancsGo (acc ++ [ancOf acc o]) l
def chkGo : Nat → List Oper → List Sh → List (List Nat) → Bool
  | k, o :: l, s :: ss, _ :: as => (o.after.all fun e => !Region.binds .any e || Nat.blt e.on k) && (ss.zip as).all (fun p => p.2.contains k || s.apart p.1) && chkGo (k + 1) l ss as
  | _, [], [], [] => true
  | _, _, _, _ => false

section
variable {P : Program} {nt : Nat} {F : Fm}

theorem ancsGo_spec {ops : Array Oper} : ∀ (l : List Oper) (acc : List (List Nat)), (∀ (i : Nat), l[i]? = ops[acc.length + i]?) → (∀ (j : Nat) s, acc[j]? = some s → ∀ i ∈ s, Anc ops j i) → ∀ (j : Nat) s, (ancsGo acc l)[j]? = some s → ∀ i ∈ s, Anc ops j i
  | [], acc, _, ha => ha
  | o :: l, acc, hl, ha => by
    refine ancsGo_spec l (acc ++ [ancOf acc o]) (fun i => ?_) (fun j s hj i hi => ?_)
    · have := hl (i + 1)
      simp only [List.getElem?_cons_succ] at this
      rw [this]
      simp [Nat.add_assoc, Nat.add_comm 1]
    · rcases Nat.lt_or_ge j acc.length with h | h
      · rw [List.getElem?_append_left h] at hj
        exact ha j s hj i hi
      · rw [List.getElem?_append_right h] at hj
        have hj0 : j - acc.length = 0 := by
          have := (List.getElem?_eq_some_iff.1 hj).1
          simp at this
          omega
        have hje : j = acc.length := by omega
        subst hje
        simp at hj
        subst hj
        have ho : ops[acc.length]? = some o := by simpa using (hl 0).symm
        simp only [ancOf, List.mem_eraseDups, List.mem_flatMap, List.mem_filter] at hi
        obtain ⟨e, ⟨he, hb⟩, hi⟩ := hi
        rcases List.mem_cons.1 hi with rfl | hi
        · exact Anc.base ho (Array.mem_toList_iff.1 he) hb rfl
        · refine Anc.step ho (Array.mem_toList_iff.1 he) hb rfl ?_
          cases hq : acc[e.on]? with
          | none => simp [List.getD_eq_getElem?_getD, hq] at hi
          | some s' =>
            simp [List.getD_eq_getElem?_getD, hq] at hi
            exact ha _ _ hq i hi

theorem AnyX.lex {ops : Array Oper} {sf : St} : ∀ (l : List Oper) (ds : List SD) (as : List (List Nat)) (k : Nat) (all : List SD) (listed : Array Bool) (s : St),
    (∀ (i : Nat), l[i]? = ops[k + i]?) → (∀ (i : Nat), ds[i]? = all[k + i]?) → (∀ (i : Nat) s, as[i]? = some s → ∀ q ∈ s, Anc ops (k + i) q) → l.length = ds.length → all.length = ops.size → listed.size = ops.size →
    (∀ j, j < ops.size → listed.getD j false = decide (j < k)) → k ≤ ops.size → DownL ops listed → chkGo k l (ds.map SD.sh) as = true → Way ds s sf → AnyX ops all sf l.length listed s
  | [], [], as, k, all, listed, s, hl, hd, ha, hlen, hall, hsz, hli, hk, hdn, hc, hw => by
    have hke : ops.size ≤ k := by
      have := hl 0
      simp at this
      have h2 := this
      omega
    refine ⟨?_, ?_⟩
    · cases hr : Region.ready .any ops listed with
      | nil => rfl
      | cons i r =>
        have hi : i ∈ Region.ready .any ops listed := by rw [hr]; simp
        obtain ⟨h1, o, ho, _⟩ := mem_ready.1 hi
        have hlt := (Array.getElem?_eq_some_iff.1 ho).1
        have h2 := hli i hlt
        rw [getD_of h1] at h2
        simp at h2
        omega
    · have : s = sf := hw
      subst this
      exact St.eqv.refl s
  | o :: l, d :: ds, a :: as, k, all, listed, s, hl, hd, ha, hlen, hall, hsz, hli, hk, hdn, hc, hw => by
    simp only [chkGo, List.map_cons, Bool.and_eq_true] at hc
    obtain ⟨⟨hc1, hc2⟩, hc3⟩ := hc
    have hok : ops[k]? = some o := by simpa using (hl 0).symm
    have hdk : all[k]? = some d := by simpa using (hd 0).symm
    have hkl : k < ops.size := (Array.getElem?_eq_some_iff.1 hok).1
    have hun : listed.getD k true = false := by
      have := hli k hkl
      have hks : k < listed.size := by omega
      simp [hks] at this ⊢
      exact this
    have hedge : ∀ e ∈ o.after, Region.binds .any e = true → e.on < k := by
      intro e he hb
      have := Array.all_eq_true_iff_forall_mem.1 hc1 e he
      simp [hb, Nat.blt] at this
      omega
    have hr : k ∈ Region.ready .any ops listed := mem_ready.2 ⟨hun, o, hok, fun e he hb => by
      have := hedge e he hb
      rw [hli e.on (by omega)]
      simpa using this⟩
    refine AnyX.first hdk l.length listed s hdn (fun j dj hdj hne hjun => ?_) hr hw.1 ?_
    · have hjl : j < all.length := (List.getElem?_eq_some_iff.1 hdj).1
      have hjk : k < j := by
        have h1 := hli j (by omega)
        rw [getD_of hjun] at h1
        simp at h1
        omega
      have hi : ds[j - (k + 1)]? = some dj := by
        have := hd (j - k)
        rw [show k + (j - k) = j by omega, hdj] at this
        rw [show j - k = (j - (k + 1)) + 1 by omega] at this
        simpa using this
      have hjlt : j - (k + 1) < as.length := by
        have h1 := congrArg (fun _ => ()) hc3
        have h2 : (ds.map SD.sh).length = as.length := by
          clear hc1 hc2 h1
          have gen : ∀ (l : List Oper) (ss : List Sh) (as : List (List Nat)) (k : Nat), chkGo k l ss as = true → ss.length = as.length := by
            intro l
            induction l with
            | nil =>
              intro ss as k h
              cases ss <;> cases as <;> simp [chkGo] at h ⊢
            | cons o l ih =>
              intro ss as k h
              cases ss <;> cases as <;> simp [chkGo] at h ⊢
              exact ih _ _ _ h.2
          exact gen _ _ _ _ hc3
        have h3 := (List.getElem?_eq_some_iff.1 hi).1
        simp at h2
        omega
      have hp : (dj.sh, as[j - (k + 1)]) ∈ (ds.map SD.sh).zip as := by
        refine List.mem_of_getElem? (i := j - (k + 1)) ?_
        rw [List.getElem?_zip_eq_some]
        exact ⟨by simp [hi], List.getElem?_eq_getElem hjlt⟩
      have := List.all_eq_true.1 hc2 _ hp
      simp only [Bool.or_eq_true] at this
      rcases this with h | h
      · refine .inl ?_
        have h4 := ha (j - k) as[j - (k + 1)] (by rw [show j - k = (j - (k + 1)) + 1 by omega]; simp [List.getElem?_eq_getElem hjlt]) k (by simpa using h)
        rwa [show k + (j - k) = j by omega] at h4
      · exact .inr h
    · refine AnyX.lex l ds as (k + 1) all (listed.setIfInBounds k true) (d.app s) (fun i => ?_) (fun i => ?_) (fun i s hi q hq => ?_) (by simpa using hlen) hall (by simpa using hsz) (fun j hj => ?_) (by omega) (down_set hdn hr) hc3 hw.2
      · have := hl (i + 1)
        simp only [List.getElem?_cons_succ] at this
        rw [this]
        congr 1
        omega
      · have := hd (i + 1)
        simp only [List.getElem?_cons_succ] at this
        rw [this]
        congr 1
        omega
      · have := ha (i + 1) s (by simpa using hi) q hq
        rwa [show k + (i + 1) = k + 1 + i by omega] at this
      · by_cases hjk : k = j
        · subst hjk
          have hks : k < listed.size := by omega
          simp [hks]
        · rw [getD_set_ne false hjk, hli j hj]
          have : (j < k) ↔ (j < k + 1) := by omega
          simp [this]
  | o :: l, d :: ds, [], k, all, listed, s, hl, hd, ha, hlen, hall, hsz, hli, hk, hdn, hc, hw => by simp [chkGo] at hc
  | [], _ :: _, _, _, _, _, _, _, _, _, hlen, _, _, _, _, _, _, _ => by simp at hlen
  | _ :: _, [], _, _, _, _, _, _, _, _, hlen, _, _, _, _, _, _, _ => by simp at hlen

theorem repl_false (n j : Nat) : (Array.replicate n false).getD j false = false := by
  simp only [Array.getD_eq_getD_getElem?, Array.getElem?_replicate]
  split <;> rfl

theorem wp_plain {l : List Oper} {ds : List SD} {s s' : St} {id : Nat} {Q : Exit → Act → World → Prop} {a : Act} {w : World} (hex : Ex P nt l.toArray l s ds s') (hs : Sat F nt s a w) (hQ : ∀ a w, Sat F nt s' a w → Q .normal a w) :
    (Code.region id l.toArray false).wp P Q a w := by
  obtain ⟨h1, h2⟩ := hex.steps
  exact wp_region_lit (wpList_way hQ l ds s a w h1 h2 hex.way hs)
theorem wp_draw (hm : P.follows .mixedOrders = true) {l : List Oper} {ds : List SD} {s s' : St} {id : Nat} {Q : Exit → Act → World → Prop} {a : Act} {w : World} (hex : Ex P nt l.toArray l s ds s') (hchk : chkGo 0 l (ds.map SD.sh) (ancsGo [] l) = true)
    (hs : Sat F nt s a w) (hQ : ∀ a w, Sat F nt s' a w → Q .normal a w) : (Code.region id l.toArray true).wp P Q a w := by
  obtain ⟨h1, h2⟩ := hex.steps
  refine wp_region_any hm (AnyX.sound (F := F) (nt := nt) hQ (ds := ds) (fun i o d ho hd => h2 i o d (by simpa using ho) hd) _ _ s a _ ?_ hs.drew)
  have := AnyX.lex (ops := l.toArray) (sf := s') l ds (ancsGo [] l) 0 ds (Array.replicate l.toArray.size false) s (by simp) (by simp) (fun i s hi q hq => ?_) h1 (by simp [h1]) (by simp) (fun j hj => by rw [repl_false]; simp) (by omega) ?_ hchk hex.way
  · simpa using this
  · rw [Nat.zero_add]
    exact ancsGo_spec l [] (by simp) (by simp) i s hi q hq
  · intro j o e hj
    rw [repl_false] at hj
    cases hj
end

/-! ### Control -/
inductive It where
  | code (c : Code)
  | endB (id : Nat)

section
variable {P : Program}
def wpIt (P : Program) : List It → (Exit → Act → World → Prop) → Exit → Act → World → Prop
  | [], Q, e, a, w => Q e a w
  | .code c :: k, Q, .normal, a, w => c.wp P (wpIt P k Q) a w
  | .code _ :: k, Q, .exit id, a, w => wpIt P k Q (.exit id) a w
  | .endB _ :: k, Q, .normal, a, w => wpIt P k Q .normal a w
  | .endB i :: k, Q, .exit id, a, w => if id = i then wpIt P k Q .normal a w else wpIt P k Q (.exit id) a w
  | _ :: k, Q, e, a, w => wpIt P k Q e a w

variable {Q Q' : Exit → Act → World → Prop} {a : Act} {w : World}
theorem wpIt_mono (hq : ∀ e a w, Q e a w → Q' e a w) : ∀ (k : List It) (e : Exit) (a : Act) (w : World), wpIt P k Q e a w → wpIt P k Q' e a w
  | [], e, a, w, h => hq e a w h
  | .code c :: k, e, a, w, h => by
    cases e <;> simp only [wpIt] at h ⊢ <;> first
      | exact Code.wp_mono (fun e a w h => wpIt_mono hq k e a w h) h
      | exact wpIt_mono hq k _ a w h
  | .endB i :: k, e, a, w, h => by
    cases e <;> simp only [wpIt] at h ⊢ <;> first
      | exact wpIt_mono hq k _ a w h
      | (split
         · rename_i hi; rw [if_pos hi] at h; exact wpIt_mono hq k _ a w h
         · rename_i hi; rw [if_neg hi] at h; exact wpIt_mono hq k _ a w h)
theorem wpIt_seq {x y : Code} {k : List It} (h : wpIt P (.code x :: .code y :: k) Q .normal a w) : wpIt P (.code (.seq x y) :: k) Q .normal a w := by
  simp only [wpIt] at h ⊢
  refine wp_seq (Code.wp_mono (fun e a w h => ?_) h)
  cases e <;> simp only [wpIt, Exit.then] at h ⊢ <;> exact h
theorem wpIt_block {id : Nat} {c : Code} {k : List It} (h : wpIt P (.code c :: .endB id :: k) Q .normal a w) : wpIt P (.code (.block id c) :: k) Q .normal a w := by
  simp only [wpIt] at h ⊢
  refine wp_block (Code.wp_mono (fun e a w h => ?_) h)
  cases e <;> simp only [wpIt, Exit.inBlock] at h ⊢ <;> exact h
def exitK (id : Nat) : List It → Option (List It)
  | [] => none
  | .code _ :: k => exitK id k
  | .endB i :: k => bif Nat.beq id i then some k else exitK id k
theorem wpIt_exit {id : Nat} : ∀ {k k' : List It}, exitK id k = some k' → wpIt P k' Q .normal a w → wpIt P k Q (.exit id) a w
  | .code _ :: k, k', h, hh => by simp only [wpIt]; exact wpIt_exit (by simpa [exitK] using h) hh
  | .endB i :: k, k', h, hh => by
    simp only [exitK] at h
    simp only [wpIt]
    cases hb : Nat.beq id i
    · rw [hb] at h
      rw [if_neg (fun e => by subst e; simp at hb)]
      exact wpIt_exit h hh
    · rw [hb] at h
      simp at h
      subst h
      rw [if_pos (Nat.eq_of_beq_eq_true hb)]
      exact hh
theorem wpIt_exitOut {id : Nat} : ∀ {k : List It}, exitK id k = none → Q (.exit id) a w → wpIt P k Q (.exit id) a w
  | [], _, hh => hh
  | .code _ :: k, h, hh => by simp only [wpIt]; exact wpIt_exitOut (by simpa [exitK] using h) hh
  | .endB i :: k, h, hh => by
    simp only [exitK] at h
    simp only [wpIt]
    cases hb : Nat.beq id i
    · rw [hb] at h
      rw [if_neg (fun e => by subst e; simp at hb)]
      exact wpIt_exitOut h hh
    · rw [hb] at h
      simp at h
theorem wpIt_ret : ∀ {k : List It}, Q .ret a w → wpIt P k Q .ret a w
  | [], h => h
  | .code _ :: k, h => by simp only [wpIt]; exact wpIt_ret h
  | .endB _ :: k, h => by simp only [wpIt]; exact wpIt_ret h
end
end Go.Proofs.Ytiboffhdabeiiaa
