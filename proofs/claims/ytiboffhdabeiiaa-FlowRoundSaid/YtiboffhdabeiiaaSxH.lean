/-
  The symbolic state: regions, whatever order is drawn. Plain lemmas over any program.
-/
import Derived.Test.YtiboffhdabeiiaaSxG
import Derived.Tactics
namespace Go.Proofs.Ytiboffhdabeiiaa
open Go Go.RowKit

/-- A region's operations, one behind the other, in the text's order. -/
inductive Ex (P : Program) (nt : Nat) (ops : Array Oper) : List Oper → St → List SD → St → Prop
  | nil {s : St} : Ex P nt ops [] s [] s
  | step {o : Oper} {rest : List Oper} {s s1 s' : St} {d : SD} {ds : List SD} (hg : o.guard = none) (h : OpR P nt s o d s1) (k : Ex P nt ops rest s1 ds s') : Ex P nt ops (o :: rest) s (d :: ds) s'
  | yes {o : Oper} {rest : List Oper} {s s1 s' : St} {d : SD} {ds : List SD} {j g : Nat} {w b : Bool} (hg : o.guard = some (j, w)) (hs : (ops[j]?).bind (·.dst) = some g) (hb : getL s.sl g = some (.v (.bool b))) (hw : b = w) (h : OpR P nt s o d s1)
      (k : Ex P nt ops rest s1 ds s') : Ex P nt ops (o :: rest) s (⟨(g, .v (.bool b)) :: d.ins, d.hin, d.fr, d.dst, d.v, d.wr⟩ :: ds) s'
  | no {o : Oper} {rest : List Oper} {s s' : St} {ds : List SD} {j g t : Nat} {w b : Bool} (hg : o.guard = some (j, w)) (hs : (ops[j]?).bind (·.dst) = some g) (hb : getL s.sl g = some (.v (.bool b))) (hw : b = !w) (ht : o.dst = some t) (hn : Nat.blt t nt = true)
      (k : Ex P nt ops rest ⟨(t, .v undef) :: s.sl, s.hp⟩ ds s') : Ex P nt ops (o :: rest) s (⟨[(g, .v (.bool b))], [], [], some t, .v undef, []⟩ :: ds) s'
  | noU {o : Oper} {rest : List Oper} {s s' : St} {ds : List SD} {j g t : Nat} {w : Bool} (hg : o.guard = some (j, w)) (hs : (ops[j]?).bind (·.dst) = some g) (hb : getL s.sl g = some (.v undef)) (ht : o.dst = some t) (hn : Nat.blt t nt = true)
      (k : Ex P nt ops rest ⟨(t, .v undef) :: s.sl, s.hp⟩ ds s') : Ex P nt ops (o :: rest) s (⟨[(g, .v undef)], [], [], some t, .v undef, []⟩ :: ds) s'
  | noS {o : Oper} {rest : List Oper} {s s' : St} {ds : List SD} {j g : Nat} {w b : Bool} (hg : o.guard = some (j, w)) (hs : (ops[j]?).bind (·.dst) = some g) (hb : getL s.sl g = some (.v (.bool b))) (hw : b = !w) (ht : o.dst = none)
      (k : Ex P nt ops rest s ds s') : Ex P nt ops (o :: rest) s (⟨[(g, .v (.bool b))], [], [], none, .v undef, []⟩ :: ds) s'

/-- What a guard's slot says. -/
theorem yields_undef {F : Fm} {nt : Nat} {ops : Array Oper} {s : St} {a : Act} {w : World} {o : Oper} {j g : Nat} {wt : Bool} (h : Sat F nt s a w) (hg : o.guard = some (j, wt)) (hs : (ops[j]?).bind (·.dst) = some g) (hb : getL s.sl g = some (.v undef)) : Region.wanted o (yielded ops a.tmps) = false := by
  obtain ⟨β, h1, h2, h3, _⟩ := h
  have := h3 g _ hb
  simp only [Region.wanted, hg, yielded, hs, Option.bind_some, this]
  rfl

/-- What an operation does, its guard looked at. -/
def StepG (P : Program) (nt : Nat) (ops : Array Oper) (o : Oper) (d : SD) : Prop :=
  ∀ F s a w, Sat F nt s a w → d.pre s → (Region.wanted o (yielded ops a.tmps) = true ∧ o.wp P a w (fun a' w' => Sat F nt (d.app s) a' w') NoExit) ∨ (Region.wanted o (yielded ops a.tmps) = false ∧ Sat F nt (d.app s) (a.put o.dst undef) w)

section
variable {P : Program} {nt : Nat} {ops : Array Oper} {F : Fm}

theorem Oper.wp_noexit {o : Oper} {a : Act} {w : World} {K : Act → World → Prop} {Q : Exit → Act → World → Prop} (h : o.wp P a w K NoExit) : o.wp P a w K Q := by
  unfold Oper.wp at *
  generalize (execOp a.eval o).run P w = r at *
  cases r with
  | ok n w' =>
    cases n <;> simp only [Oper.upon] at h ⊢ <;> first
      | exact h
      | (refine Calls.mono h fun e w'' he => ?_
         cases e with
         | returned v => exact he
         | panicked c => exact he.elim
         | outgrown => obtain ⟨_, _, hq⟩ := he; exact hq.elim)
  | halt x w' => cases x <;> simp only [Oper.upon] at h ⊢ <;> first | exact h | exact h.elim

theorem wanted_at {s : St} {a : Act} {w : World} {o : Oper} {j g : Nat} {wt b : Bool} (h : Sat F nt s a w) (hg : o.guard = some (j, wt)) (hs : (ops[j]?).bind (·.dst) = some g) (hb : getL s.sl g = some (.v (.bool b))) : Region.wanted o (yielded ops a.tmps) = (b == wt) := by
  obtain ⟨β, h1, h2, h3, _⟩ := h
  have := h3 g _ hb
  simp only [Region.wanted, hg, yielded, hs, Option.bind_some, this]
  cases b <;> cases wt <;> rfl

theorem Ex.steps {l : List Oper} {s s' : St} {ds : List SD} (h : Ex P nt ops l s ds s') : l.length = ds.length ∧ ∀ (i : Nat) o d, l[i]? = some o → ds[i]? = some d → StepG P nt ops o d := by
  induction h with
  | nil => exact ⟨rfl, by simp⟩
  | step hg h k ih =>
    refine ⟨by simp [ih.1], fun i o d ho hd => ?_⟩
    cases i with
    | zero =>
      simp at ho hd
      subst ho
      subst hd
      intro F s a w hs hp
      exact .inl ⟨by simp [Region.wanted, hg], h.ok.2 F s a w hs hp⟩
    | succ i => exact ih.2 i o d (by simpa using ho) (by simpa using hd)
  | yes hg hs hb hw h k ih =>
    refine ⟨by simp [ih.1], fun i o d ho hd => ?_⟩
    cases i with
    | zero =>
      simp at ho hd
      subst ho
      subst hd
      intro F s a w hsat hp
      have hb' := hp.1 _ (List.mem_cons_self ..)
      refine .inl ⟨by rw [wanted_at hsat hg hs hb', hw]; simp, ?_⟩
      exact h.ok.2 F s a w hsat ⟨fun p hp' => hp.1 p (List.mem_cons_of_mem _ hp'), hp.2⟩
    | succ i => exact ih.2 i o d (by simpa using ho) (by simpa using hd)
  | no hg hs hb hw ht hn k ih =>
    refine ⟨by simp [ih.1], fun i o d ho hd => ?_⟩
    cases i with
    | zero =>
      simp at ho hd
      subst ho
      subst hd
      intro F s a w hsat hp
      have hb' := hp.1 _ (List.mem_cons_self ..)
      refine .inr ⟨by rw [wanted_at hsat hg hs hb', hw]; simp, ?_⟩
      rw [ht]
      obtain ⟨β, hsb⟩ := hsat
      exact ⟨β, hsb.put (by simp [Nat.blt] at hn; omega) (by simp [SV.ids])⟩
    | succ i => exact ih.2 i o d (by simpa using ho) (by simpa using hd)
  | noU hg hs hb ht hn k ih =>
    refine ⟨by simp [ih.1], fun i o d ho hd => ?_⟩
    cases i with
    | zero =>
      simp at ho hd
      subst ho
      subst hd
      intro F s a w hsat hp
      have hb' := hp.1 _ (List.mem_cons_self ..)
      refine .inr ⟨yields_undef hsat hg hs hb', ?_⟩
      rw [ht]
      obtain ⟨β, hsb⟩ := hsat
      exact ⟨β, hsb.put (by simp [Nat.blt] at hn; omega) (by simp [SV.ids])⟩
    | succ i => exact ih.2 i o d (by simpa using ho) (by simpa using hd)
  | noS hg hs hb hw ht k ih =>
    refine ⟨by simp [ih.1], fun i o d ho hd => ?_⟩
    cases i with
    | zero =>
      simp at ho hd
      subst ho
      subst hd
      intro F s a w hsat hp
      have hb' := hp.1 _ (List.mem_cons_self ..)
      refine .inr ⟨by rw [wanted_at hsat hg hs hb', hw]; simp, ?_⟩
      rw [ht]
      exact hsat
    | succ i => exact ih.2 i o d (by simpa using ho) (by simpa using hd)

/-- The states on the way. -/
def Way : List SD → St → St → Prop
  | [], s, s' => s = s'
  | d :: ds, s, s' => d.pre s ∧ Way ds (d.app s) s'
theorem Ex.way {l : List Oper} {s s' : St} {ds : List SD} (h : Ex P nt ops l s ds s') : Way ds s s' := by
  induction h with
  | nil => rfl
  | step hg h k ih =>
    obtain ⟨_, h2, rfl⟩ := h
    exact ⟨h2, ih⟩
  | yes hg hs hb hw h k ih =>
    obtain ⟨_, h2, rfl⟩ := h
    exact ⟨⟨fun p hp => (List.mem_cons.1 hp).elim (fun e => by subst e; exact hb) (h2.1 p), h2.2⟩, ih⟩
  | no hg hs hb hw ht hn k ih => exact ⟨⟨by simpa using hb, by simp, by simp⟩, ih⟩
  | noU hg hs hb ht hn k ih => exact ⟨⟨by simpa using hb, by simp, by simp⟩, ih⟩
  | noS hg hs hb hw ht k ih => exact ⟨⟨by simpa using hb, by simp, by simp⟩, ih⟩

theorem wpList_way {Q : Exit → Act → World → Prop} {s' : St} (hQ : ∀ a w, Sat F nt s' a w → Q .normal a w) : ∀ (l : List Oper) (ds : List SD) (s : St) (a : Act) (w : World), l.length = ds.length →
    (∀ (i : Nat) o d, l[i]? = some o → ds[i]? = some d → StepG P nt ops o d) → Way ds s s' → Sat F nt s a w → wpList P ops Q l a w
  | [], [], s, a, w, _, _, hw, h => by
    have : s = s' := hw
    subst this
    exact hQ a w h
  | o :: l, d :: ds, s, a, w, hl, hst, hw, h => by
    have ih := fun a' w' => wpList_way hQ l ds (d.app s) a' w' (by simpa using hl) (fun i o' d' ho hd => hst (i + 1) o' d' (by simpa using ho) (by simpa using hd)) hw.2
    have h0 := hst 0 o d rfl rfl F s a w h hw.1
    unfold wpList
    rcases h0 with ⟨h1, h2⟩ | ⟨h1, h2⟩
    · rw [if_pos h1]
      exact .inl (Oper.wp_mono (fun a' w' h3 => ih a' w' h3) (Oper.wp_noexit h2))
    · rw [if_neg (by rw [h1]; simp)]
      exact ih _ _ h2
  | [], _ :: _, _, _, _, hl, _, _, _ => by simp at hl
  | _ :: _, [], _, _, _, hl, _, _, _ => by simp at hl

/-! ### Any order -/
theorem SD.pre_eqv {d : SD} {s s' : St} (e : s.eqv s') (h : d.pre s) : d.pre s' :=
  ⟨fun p hp => (e.1 _).symm.trans (h.1 p hp), fun p hp => (e.2 _).symm.trans (h.2.1 p hp), fun i hi => (e.2 _).symm.trans (h.2.2 i hi)⟩
theorem SD.get_sl (d : SD) (s : St) (t : Nat) : getL (d.app s).sl t = if d.dst = some t then some d.v else getL s.sl t := by
  unfold SD.app
  cases hd : d.dst with
  | none => simp
  | some u =>
    simp only [getL_cons]
    by_cases h : u = t <;> simp [h]
theorem SD.get_hp (d : SD) (s : St) (i : Nat) : getL (d.app s).hp i = (getL d.wr i).or (getL s.hp i) := getL_append _ _ _
theorem SD.app_eqv {d : SD} {s s' : St} (e : s.eqv s') : (d.app s).eqv (d.app s') :=
  ⟨fun t => by rw [d.get_sl, d.get_sl, e.1], fun i => by rw [d.get_hp, d.get_hp, e.2]⟩

structure Sh where
  dst : Option Nat
  look : List Nat
  tch : List Nat
  wrs : List Nat
def SD.sh (d : SD) : Sh := ⟨d.dst, d.ins.map (·.1), d.hin.map (·.1) ++ d.fr, d.wr.map (·.1)⟩
def disj (l m : List Nat) : Bool := l.all fun x => !m.contains x
def offD (d : Option Nat) (l : List Nat) : Bool := match d with
  | some t => !l.contains t
  | none => true
def Sh.apart (x y : Sh) : Bool :=
  offD x.dst y.look && offD y.dst x.look && (x.dst.isNone || x.dst != y.dst) && disj x.wrs y.tch && disj x.wrs y.wrs && disj y.wrs x.tch
theorem disj_spec {l m : List Nat} (h : disj l m = true) : ∀ x ∈ l, x ∉ m := by
  intro x hx hm
  have := List.all_eq_true.1 h x hx
  simp at this
  exact this hm
theorem getL_none {α : Type _} {l : List (Nat × α)} {i : Nat} (h : i ∉ l.map (·.1)) : getL l i = none := by
  cases hg : getL l i with
  | none => rfl
  | some v => exact absurd (List.mem_map.2 ⟨(i, v), getL_mem hg, rfl⟩) h
theorem getL_some_mem {α : Type _} {l : List (Nat × α)} {i : Nat} {v : α} (h : getL l i = some v) : i ∈ l.map (·.1) := List.mem_map.2 ⟨(i, v), getL_mem h, rfl⟩

theorem apart_swap {x y : SD} (h : x.sh.apart y.sh = true) (s : St) : (y.app (x.app s)).eqv (x.app (y.app s)) ∧ (y.pre (x.app s) → y.pre s) ∧ (x.pre s → x.pre (y.app s)) := by
  simp only [Sh.apart, Bool.and_eq_true] at h
  obtain ⟨⟨⟨⟨⟨h1, h2⟩, h3⟩, h4⟩, h5⟩, h6⟩ := h
  have h4 := disj_spec h4
  have h5 := disj_spec h5
  have h6 := disj_spec h6
  have k1 : ∀ p ∈ y.ins, x.dst ≠ some p.1 := by
    intro p hp e
    rw [show x.sh.dst = some p.1 from e] at h1
    simp [offD, SD.sh] at h1
    exact h1 p.2 hp
  have k2 : ∀ p ∈ x.ins, y.dst ≠ some p.1 := by
    intro p hp e
    rw [show y.sh.dst = some p.1 from e] at h2
    simp [offD, SD.sh] at h2
    exact h2 p.2 hp
  have k3 : ∀ t, x.dst = some t → y.dst ≠ some t := by
    intro t hx hy
    simp [SD.sh, hx, hy] at h3
  have k4 : ∀ i ∈ y.hin.map (·.1) ++ y.fr, getL x.wr i = none := fun i hi => getL_none (fun hx => h4 i hx hi)
  have k6 : ∀ i ∈ x.hin.map (·.1) ++ x.fr, getL y.wr i = none := fun i hi => getL_none (fun hx => h6 i hx hi)
  refine ⟨⟨fun t => ?_, fun i => ?_⟩, fun hp => ⟨fun p hp' => ?_, fun p hp' => ?_, fun i hi => ?_⟩, fun hp => ⟨fun p hp' => ?_, fun p hp' => ?_, fun i hi => ?_⟩⟩
  · rw [y.get_sl, x.get_sl, x.get_sl, y.get_sl]
    by_cases hx : x.dst = some t
    · have := k3 t hx
      simp [hx, this]
    · simp [hx]
  · rw [y.get_hp, x.get_hp, x.get_hp, y.get_hp]
    cases hx : getL x.wr i with
    | none => simp
    | some c =>
      have : getL y.wr i = none := getL_none (fun hy => h5 i (getL_some_mem hx) hy)
      simp [this]
  · have := hp.1 p hp'
    rwa [x.get_sl, if_neg (k1 p hp')] at this
  · have := hp.2.1 p hp'
    rwa [x.get_hp, k4 p.1 (List.mem_append_left _ (List.mem_map.2 ⟨p, hp', rfl⟩)), Option.none_or] at this
  · have := hp.2.2 i hi
    rwa [x.get_hp, k4 i (List.mem_append_right _ hi), Option.none_or] at this
  · rw [y.get_sl, if_neg (k2 p hp')]
    exact hp.1 p hp'
  · rw [y.get_hp, k6 p.1 (List.mem_append_left _ (List.mem_map.2 ⟨p, hp', rfl⟩)), Option.none_or]
    exact hp.2.1 p hp'
  · rw [y.get_hp, k6 i (List.mem_append_right _ hi), Option.none_or]
    exact hp.2.2 i hi

def AnyX (ops : Array Oper) (ds : List SD) (sf : St) : Nat → Array Bool → St → Prop
  | 0, listed, s => Region.ready .any ops listed = [] ∧ s.eqv sf
  | f + 1, listed, s => (Region.ready .any ops listed = [] → s.eqv sf) ∧ ∀ i ∈ Region.ready .any ops listed, ∃ d, ds[i]? = some d ∧ d.pre s ∧ AnyX ops ds sf f (listed.setIfInBounds i true) (d.app s)
theorem AnyX.eqv {ds : List SD} {sf : St} : ∀ {f : Nat} {listed : Array Bool} {s s' : St}, s.eqv s' → AnyX ops ds sf f listed s → AnyX ops ds sf f listed s'
  | 0, _, _, _, e, h => ⟨h.1, e.symm.trans h.2⟩
  | f + 1, _, _, _, e, h => ⟨fun h0 => e.symm.trans (h.1 h0), fun i hi => by
      obtain ⟨d, h1, h2, h3⟩ := h.2 i hi
      exact ⟨d, h1, SD.pre_eqv e h2, AnyX.eqv (SD.app_eqv e) h3⟩⟩

theorem AnyX.sound {ds : List SD} {sf : St} {Q : Exit → Act → World → Prop} (hQ : ∀ a w, Sat F nt sf a w → Q .normal a w) (hst : ∀ (i : Nat) o d, ops[i]? = some o → ds[i]? = some d → StepG P nt ops o d) :
    ∀ (f : Nat) (listed : Array Bool) (s : St) (a : Act) (w : World), AnyX ops ds sf f listed s → Sat F nt s a w → wpAny P .any ops Q f listed a w
  | 0, _, _, a, w, h, hs => ⟨h.1, hQ a w (hs.eqv h.2)⟩
  | f + 1, listed, s, a, w, h, hs => by
    refine ⟨fun h0 => hQ a w (hs.eqv (h.1 h0)), fun i hi => ?_⟩
    obtain ⟨d, h1, h2, h3⟩ := h.2 i hi
    obtain ⟨_, o, ho, _⟩ := mem_ready.1 hi
    unfold wpOp
    simp only [ho]
    rcases hst i o d ho h1 F s a w hs h2 with ⟨k1, k2⟩ | ⟨k1, k2⟩
    · rw [if_pos k1]
      exact .inl (Oper.wp_mono (fun a' w' hh => AnyX.sound hQ hst f _ _ a' w' h3 hh) (Oper.wp_noexit k2))
    · rw [if_neg (by rw [k1]; simp)]
      exact AnyX.sound hQ hst f _ _ _ _ h3 k2

/-- Who comes ahead of an operation, at once or by others. -/
inductive Anc (ops : Array Oper) : Nat → Nat → Prop
  | base {j k : Nat} {o : Oper} {e : Edge} (ho : ops[j]? = some o) (he : e ∈ o.after) (hb : Region.binds .any e = true) (hk : e.on = k) : Anc ops j k
  | step {j i k : Nat} {o : Oper} {e : Edge} (ho : ops[j]? = some o) (he : e ∈ o.after) (hb : Region.binds .any e = true) (hk : e.on = k) (h : Anc ops k i) : Anc ops j i
def DownL (ops : Array Oper) (listed : Array Bool) : Prop := ∀ (j : Nat) (o : Oper) e, listed.getD j false = true → ops[j]? = some o → e ∈ o.after → Region.binds .any e = true → listed.getD e.on false = true
theorem Anc.listed {listed : Array Bool} (hd : DownL ops listed) {j i : Nat} (h : Anc ops j i) : listed.getD j false = true → listed.getD i false = true := by
  induction h with
  | base ho he hb hk => intro hj; rw [← hk]; exact hd _ _ _ hj ho he hb
  | step ho he hb hk h ih => intro hj; exact ih (by rw [← hk]; exact hd _ _ _ hj ho he hb)
theorem getD_of {listed : Array Bool} {i : Nat} (h : listed.getD i true = false) : listed.getD i false = false := by
  rcases Nat.lt_or_ge i listed.size with h' | h'
  · simp [h'] at h ⊢; exact h
  · simp [Array.getElem?_eq_none h'] at h
theorem notAnc {listed : Array Bool} (hd : DownL ops listed) {i j : Nat} (hj : j ∈ Region.ready .any ops listed) (hi : listed.getD i true = false) : ¬ Anc ops j i := by
  intro h
  obtain ⟨_, o, ho, hall⟩ := mem_ready.1 hj
  have hi' := getD_of hi
  cases h with
  | base ho' he hb hk =>
    rw [ho] at ho'
    injection ho' with ho'
    subst ho'
    have := hall _ he hb
    rw [hk, hi'] at this
    cases this
  | step ho' he hb hk h =>
    rw [ho] at ho'
    injection ho' with ho'
    subst ho'
    have h1 := hall _ he hb
    rw [hk] at h1
    have := h.listed hd h1
    rw [hi'] at this
    cases this
theorem down_set {listed : Array Bool} (hd : DownL ops listed) {i : Nat} (hi : i ∈ Region.ready .any ops listed) : DownL ops (listed.setIfInBounds i true) := by
  intro j o e hj ho he hb
  by_cases hij : i = j
  · subst hij
    obtain ⟨_, o', ho', hall⟩ := mem_ready.1 hi
    rw [ho] at ho'
    injection ho' with ho'
    subst ho'
    exact getD_set_true (hall e he hb)
  · rw [getD_set_ne false hij] at hj
    exact getD_set_true (hd j o e hj ho he hb)

theorem AnyX.first {ds : List SD} {sf : St} {i : Nat} {di : SD} (hdi : ds[i]? = some di) :
    ∀ (f : Nat) (listed : Array Bool) (s : St), DownL ops listed →
      (∀ j dj, ds[j]? = some dj → j ≠ i → listed.getD j true = false → Anc ops j i ∨ di.sh.apart dj.sh = true) →
      i ∈ Region.ready .any ops listed → di.pre s → AnyX ops ds sf f (listed.setIfInBounds i true) (di.app s) → AnyX ops ds sf (f + 1) listed s := by
  intro f
  induction f with
  | zero =>
    intro listed s hdn hfree hr hp H
    refine ⟨fun h => (by rw [h] at hr; cases hr), fun j hj => ?_⟩
    by_cases hji : j = i
    · subst hji
      exact ⟨di, hdi, hp, H⟩
    · have := ready_mono hj hji
      rw [H.1] at this
      cases this
  | succ f ih =>
    intro listed s hdn hfree hr hp H
    refine ⟨fun h => (by rw [h] at hr; cases hr), fun j hj => ?_⟩
    by_cases hji : j = i
    · subst hji
      exact ⟨di, hdi, hp, H⟩
    · obtain ⟨dj, hdj, hpj, hj2⟩ := H.2 j (ready_mono hj hji)
      have hjun := (mem_ready.1 hj).1
      have hiun := (mem_ready.1 hr).1
      have hap := (hfree j dj hdj hji hjun).resolve_left (notAnc hdn hj hiun)
      obtain ⟨s1, s2, s3⟩ := apart_swap hap s
      refine ⟨dj, hdj, s2 hpj, ?_⟩
      refine ih (listed.setIfInBounds j true) (dj.app s) (down_set hdn hj) (fun k dk hk hki hun => hfree k dk hk hki ?_) (ready_mono hr (Ne.symm hji)) (s3 hp) ?_
      · by_cases hjk : j = k
        · subst hjk; exact hjun
        · rwa [getD_set_ne true hjk] at hun
      · rw [Array.setIfInBounds_comm _ _ hji]
        exact AnyX.eqv s1 hj2
end
end Go.Proofs.Ytiboffhdabeiiaa
