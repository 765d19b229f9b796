/-
  The symbolic state: the judgement over code, weakening, loops, calls. Plain lemmas over any program.
-/
import Derived.Test.YtiboffhdabeiiaaSxI
import Derived.Deep.LoopGhost
namespace Go.Proofs.Ytiboffhdabeiiaa
open Go Go.RowKit

structure TL (P : Program) (nt : Nat) (fx : List Nat) (items : List It) (s : St) (K : Exit → St → Prop) : Prop where
  run : ∀ F a w, F.fx = fx → Sat F nt s a w → wpIt P items (fun e a' w' => ∃ s', K e s' ∧ Sat F nt s' a' w') .normal a w

/-- What lies behind one name serves as something else. -/
inductive ChLe : Chunk → Chunk → Prop
  | refl (c : Chunk) : ChLe c c
  | ro {α : Type} {c : Chunk} {E : Enc α} {l : List α} [h : RowC c E l] : ChLe c (.ro E l)
  | dead (c : Chunk) : ChLe c .dead
  | om {α : Type} {e : TypeId} {E : Enc α} {l : List α} : ChLe (.own e E l) (.mt E l)
def LeS (ρ : Nat → Nat) (sl' : List (Nat × SV)) : List (Nat × SV) → Prop
  | [] => True
  | (t, x) :: l => getL sl' t = some (x.ren ρ) ∧ LeS ρ sl' l
def LeH (ρ : Nat → Nat) (hp' : List (Nat × Chunk)) : List (Nat × Chunk) → Prop
  | [] => True
  | (i, c) :: l => (∃ c', getL hp' (ρ i) = some c' ∧ ChLe c' (c.ren ρ)) ∧ LeH ρ hp' l
def nodupB : List Nat → Bool
  | [] => true
  | x :: l => !l.contains x && nodupB l
def inB' {α : Type _} (hp : List (Nat × α)) (i : Nat) : Bool := (getL hp i).isSome
def closedB (s : St) : Bool := s.sl.all (fun p => p.2.ids.all (inB' s.hp)) && s.hp.all (fun p => p.2.ids.all (inB' s.hp))
def fxB (fx : List Nat) (ρ : Nat → Nat) (hp : List (Nat × Chunk)) : Bool := fx.all fun i => inB' hp i && Nat.beq (ρ i) i
structure Le (fx : List Nat) (ρ : Nat → Nat) (s' s : St) : Prop where
  sl : LeS ρ s'.sl s.sl
  hp : LeH ρ s'.hp s.hp
  ck : (closedB s && nodupB (s.hp.map fun p => ρ p.1) && fxB fx ρ s.hp) = true
theorem LeS.at_ {ρ : Nat → Nat} {sl' : List (Nat × SV)} : ∀ {sl : List (Nat × SV)} {t : Nat} {x : SV}, LeS ρ sl' sl → getL sl t = some x → getL sl' t = some (x.ren ρ)
  | (k, y) :: l, t, x, h, hg => by
    rw [getL_cons] at hg
    split at hg
    · rename_i e
      subst e
      injection hg with hg
      subst hg
      exact h.1
    · exact LeS.at_ h.2 hg
theorem LeH.at_ {ρ : Nat → Nat} {hp' : List (Nat × Chunk)} : ∀ {hp : List (Nat × Chunk)} {i : Nat} {c : Chunk}, LeH ρ hp' hp → getL hp i = some c → ∃ c', getL hp' (ρ i) = some c' ∧ ChLe c' (c.ren ρ)
  | (k, y) :: l, i, c, h, hg => by
    rw [getL_cons] at hg
    split at hg
    · rename_i e
      subst e
      injection hg with hg
      subst hg
      exact h.1
    · exact LeH.at_ h.2 hg
theorem nodupB_spec {α : Type _} {f : Nat × α → Nat} : ∀ {l : List (Nat × α)}, nodupB (l.map f) = true → ∀ p ∈ l, ∀ q ∈ l, p.1 ≠ q.1 → f p ≠ f q
  | [], _, p, hp, _, _, _ => by simp at hp
  | x :: l, h, p, hp, q, hq, hne => by
    simp only [List.map_cons, nodupB, Bool.and_eq_true] at h
    obtain ⟨h1, h2⟩ := h
    have h1' : ∀ y ∈ l, f x ≠ f y := by
      intro y hy e
      simp at h1
      exact h1 y.1 y.2 hy e.symm
    rcases List.mem_cons.1 hp with hp1 | hp1
    · rcases List.mem_cons.1 hq with hq1 | hq1
      · exact absurd (by rw [hp1, hq1]) hne
      · rw [hp1]
        exact h1' q hq1
    · rcases List.mem_cons.1 hq with hq1 | hq1
      · rw [hq1]
        exact fun e => h1' p hp1 e.symm
      · exact nodupB_spec h2 p hp1 q hq1 hne
theorem closedB_spec {s : St} (h : closedB s = true) : Closed s := by
  simp only [closedB, Bool.and_eq_true] at h
  refine ⟨fun t x ht i hi => ?_, fun i c hc j hj => ?_⟩
  · exact List.all_eq_true.1 (List.all_eq_true.1 h.1 _ (getL_mem ht)) i hi
  · exact List.all_eq_true.1 (List.all_eq_true.1 h.2 _ (getL_mem hc)) j hj

section
variable {P : Program} {nt : Nat} {fx : List Nat} {F : Fm} {β : Nat → BI} {s s' : St} {a : Act} {w : World} {id : Nat} {c c' : Chunk} {ρ : Nat → Nat}

theorem ChOk.ren (h : ChOk F β (ρ id) w (c.ren ρ)) : ChOk F (fun i => β (ρ i)) id w c := by
  cases c with
  | cells t cs =>
    simp only [Chunk.ren, ChOk] at h ⊢
    rwa [denL_ren] at h
  | _ => exact h
theorem Wr.ren {g : Nat} (h : Wr (fun i => β (ρ i)) id c g) : Wr β (ρ id) (c.ren ρ) g := by cases c <;> exact h
theorem Bl.ren {g : Nat} (h : Bl (fun i => β (ρ i)) id c g) : Bl β (ρ id) (c.ren ρ) g := by cases c <;> exact h
/-- A row of one's own is one that may be written. -/
theorem own_mt {α : Type} {e : TypeId} {E : Enc α} {l : List α} (h : ChOk F β id w (.own e E l)) : ChOk F β id w (.mt E l) := by
  have hr : RdOk β id w E l := RowC.read (c := .own e E l) inferInstance h
  refine ⟨hr, fun hl => ⟨h.2.2.1 (hr hl).1.1, fun j _ => ?_⟩⟩
  have ho := h.1
  simp only [BI.ad, (hr hl).1.1, cond_false, h.2.1] at ho
  exact ho.frozenAt _
theorem ChLe.ok (h : ChLe c' c) (hc : ChOk F β id w c') : ChOk F β id w c := by
  cases h with
  | refl => exact hc
  | ro => exact RowC.read ‹_› hc
  | dead => trivial
  | om => exact own_mt hc
theorem ChLe.wr {g : Nat} (h : ChLe c' c) (hok : ChOk F β id w c') (hc : Wr β id c g) : Wr β id c' g := by
  cases h with
  | refl => exact hc
  | ro => exact hc.elim
  | dead => exact hc.elim
  | om => exact ⟨((own_mt hok).1 hc.1).1.1, hc.2⟩
theorem ChLe.bl {g : Nat} (h : ChLe c' c) (hok : ChOk F β id w c') (hc : Bl β id c g) : Bl β id c' g := by
  cases h with
  | refl => exact hc
  | ro =>
    rename_i α E l hr
    have hrd := hr.read hok
    obtain ⟨hl, rfl⟩ := hc
    rcases hr.h with rfl | rfl | ⟨e, rfl⟩
    · exact ⟨hl, rfl⟩
    · exact ⟨hl, rfl⟩
    · exact ⟨(hrd hl).1.1, rfl⟩
  | dead => exact hc.elim
  | om => exact ⟨((own_mt hok).1 hc.1).1.1, hc.2⟩

theorem Sat.le (h : Sat F nt s' a w) (hle : Le fx ρ s' s) (hf : F.fx = fx) : Sat F nt s a w := by
  obtain ⟨β, h1, h2, h3, h4, h5, h6⟩ := h
  obtain ⟨l1, l2, l3⟩ := hle
  simp only [Bool.and_eq_true] at l3
  obtain ⟨⟨c1, c2⟩, c3⟩ := l3
  refine ⟨fun i => β (ρ i), ⟨h1.1, fun i hi => ?_⟩, h2, ?_, ⟨?_, ?_⟩, closedB_spec c1, h6⟩
  · have := List.all_eq_true.1 c3 i (by rw [← hf]; exact hi)
    simp only [Bool.and_eq_true] at this
    refine ⟨this.1, ?_⟩
    show β (ρ i) = _
    rw [Nat.eq_of_beq_eq_true this.2]
    exact (h1.2 i hi).2
  · intro t x ht
    rw [h3 t _ (l1.at_ ht), SV.den_ren]
  · intro i c hc
    obtain ⟨c', hc', hl⟩ := l2.at_ hc
    exact (hl.ok (h4.1 _ _ hc')).ren
  · intro i j ci cj hne hi hj g hw hb
    obtain ⟨ci', hci', hli⟩ := l2.at_ hi
    obtain ⟨cj', hcj', hlj⟩ := l2.at_ hj
    have hn := nodupB_spec c2 _ (getL_mem hi) _ (getL_mem hj) hne
    exact h4.2 _ _ _ _ hn hci' hcj' g (hli.wr (h4.1 _ _ hci') hw.ren) (hlj.bl (h4.1 _ _ hcj') hb.ren)

variable {k : List It} {K : Exit → St → Prop}
theorem TL.weaken (h : Le fx ρ s' s) (hk : TL P nt fx k s K) : TL P nt fx k s' K := .mk fun F a w hf hs => hk.run F a w hf (hs.le h hf)
theorem TL.seq {x y : Code} (h : TL P nt fx (.code x :: .code y :: k) s K) : TL P nt fx (.code (.seq x y) :: k) s K := .mk fun F a w hf hs => wpIt_seq (h.run F a w hf hs)
theorem TL.block {id : Nat} {x : Code} (h : TL P nt fx (.code x :: .endB id :: k) s K) : TL P nt fx (.code (.block id x) :: k) s K := .mk fun F a w hf hs => wpIt_block (h.run F a w hf hs)
theorem TL.endB {id : Nat} (h : TL P nt fx k s K) : TL P nt fx (.endB id :: k) s K := .mk fun F a w hf hs => by
  simp only [wpIt]
  exact h.run F a w hf hs
theorem TL.exit {id : Nat} {k' : List It} (hx : exitK id k = some k') (h : TL P nt fx k' s K) : TL P nt fx (.code (.exit id) :: k) s K := .mk fun F a w hf hs => by
  simp only [wpIt]
  exact wp_exit (wpIt_exit hx (h.run F a w hf hs))
theorem TL.exitOut {id : Nat} (hx : exitK id k = none) (h : K (.exit id) s) : TL P nt fx (.code (.exit id) :: k) s K := .mk fun F a w hf hs => by
  simp only [wpIt]
  exact wp_exit (wpIt_exitOut hx ⟨s, h, hs⟩)
theorem TL.ret (h : K .ret s) : TL P nt fx (.code .ret :: k) s K := .mk fun F a w hf hs => by
  simp only [wpIt]
  exact wp_ret (wpIt_ret ⟨s, h, hs⟩)
theorem TL.skip (h : TL P nt fx k s K) : TL P nt fx (.code .skip :: k) s K := .mk fun F a w hf hs => by
  simp only [wpIt]
  exact wp_skip (h.run F a w hf hs)
theorem TL.label {l : Nat} (h : TL P nt fx k s K) : TL P nt fx (.code (.label l) :: k) s K := .mk fun F a w hf hs => by
  simp only [wpIt]
  exact wp_label (h.run F a w hf hs)
theorem TL.nil (h : K .normal s) : TL P nt fx [] s K := .mk fun F a w hf hs => ⟨s, h, hs⟩
theorem TL.condB {c : Operand} {x y : Code} {b : Bool} (hc : evS s.sl c = some (.v (.bool b))) (ht : b = true → TL P nt fx (.code x :: k) s K) (hf : b = false → TL P nt fx (.code y :: k) s K) : TL P nt fx (.code (.cond c x y) :: k) s K := .mk fun F a w hfx hs => by
  have he : a.eval c = .bool b := by
    obtain ⟨β, hb⟩ := hs
    have := eval_of (β := β) (a := a) (evC_of hc) (fun p hp => hb.2.2.1 _ _ (insOf_pre hc p hp))
    simpa [SV.den] using this
  cases b with
  | true =>
    have := (ht rfl).run F a w hfx hs
    simp only [wpIt] at this ⊢
    exact wp_cond_true he this
  | false =>
    have := (hf rfl).run F a w hfx hs
    simp only [wpIt] at this ⊢
    exact wp_cond_false he this
theorem TL.cond {c : Operand} {x y : Code} {p : Prop} [hd : Decidable p] (hc : evS s.sl c = some (.v (.bool (decide p)))) (ht : p → TL P nt fx (.code x :: k) s K) (hf : ¬ p → TL P nt fx (.code y :: k) s K) : TL P nt fx (.code (.cond c x y) :: k) s K :=
  TL.condB hc (fun h => ht (of_decide_eq_true h)) (fun h => hf (of_decide_eq_false h))
theorem TL.condT {c : Operand} {x y : Code} {b : Bool} (hc : evS s.sl c = some (.v (.bool b))) (hb : b = true) (ht : TL P nt fx (.code x :: k) s K) : TL P nt fx (.code (.cond c x y) :: k) s K :=
  TL.condB hc (fun _ => ht) (fun h => by rw [hb] at h; cases h)
theorem TL.condF {c : Operand} {x y : Code} {b : Bool} (hc : evS s.sl c = some (.v (.bool b))) (hb : b = false) (ht : TL P nt fx (.code y :: k) s K) : TL P nt fx (.code (.cond c x y) :: k) s K :=
  TL.condB hc (fun h => by rw [hb] at h; cases h) (fun _ => ht)
theorem TL.plain {l : List Oper} {ds : List SD} {id : Nat} (hex : Ex P nt l.toArray l s ds s') (h : TL P nt fx k s' K) : TL P nt fx (.code (.region id l.toArray false) :: k) s K := .mk fun F a w hf hs => by
  simp only [wpIt]
  exact wp_plain hex hs (fun a w hs' => h.run F a w hf hs')
theorem TL.draw {l : List Oper} {ds : List SD} {id : Nat} (hm : P.follows .mixedOrders = true) (hex : Ex P nt l.toArray l s ds s') (hchk : chkGo 0 l (ds.map SD.sh) (ancsGo [] l) = true) (h : TL P nt fx k s' K) : TL P nt fx (.code (.region id l.toArray true) :: k) s K := .mk fun F a w hf hs => by
  simp only [wpIt]
  exact wp_draw hm hex hchk hs (fun a w hs' => h.run F a w hf hs')

/-- Behind a piece of code: R where it falls out at its end. -/
def loopK (P : Program) (nt : Nat) (fx : List Nat) (k : List It) (K : Exit → St → Prop) (R : St → Prop) : Exit → St → Prop
  | .normal, s => R s
  | .exit id, s => (∃ k', exitK id k = some k' ∧ TL P nt fx k' s K) ∨ (exitK id k = none ∧ K (.exit id) s)
  | e, s => K e s
theorem loopK.normal {R : St → Prop} (h : R s) : loopK P nt fx k K R .normal s := h
theorem loopK.exit {R : St → Prop} {id : Nat} {k' : List It} (hx : exitK id k = some k') (h : TL P nt fx k' s K) : loopK P nt fx k K R (.exit id) s := .inl ⟨k', hx, h⟩
theorem loopK.exitOut {R : St → Prop} {id : Nat} (hx : exitK id k = none) (h : K (.exit id) s) : loopK P nt fx k K R (.exit id) s := .inr ⟨hx, h⟩
theorem loopK.ret {R : St → Prop} (h : K .ret s) : loopK P nt fx k K R .ret s := h
theorem loopK.run {R : St → Prop} {Q : Act → World → Prop} {F : Fm} (hf : F.fx = fx) (hR : ∀ s a w, R s → Sat F nt s a w → Q a w) {e : Exit} {a : Act} {w : World} (h : ∃ s', loopK P nt fx k K R e s' ∧ Sat F nt s' a w) :
    Exit.then Q (wpIt P k (fun e a' w' => ∃ s', K e s' ∧ Sat F nt s' a' w')) e a w := by
  obtain ⟨s', h1, h2⟩ := h
  cases e with
  | normal => exact hR s' a w h1 h2
  | exit id =>
    rcases h1 with ⟨k', hx, h3⟩ | ⟨hx, h3⟩
    · exact wpIt_exit hx (h3.run F a w hf h2)
    · exact wpIt_exitOut hx ⟨s', h3, h2⟩
  | ret => exact wpIt_ret ⟨s', h1, h2⟩
  | goto l =>
    have : ∀ k : List It, wpIt P k (fun e a' w' => ∃ s', K e s' ∧ Sat F nt s' a' w') (.goto l) a w := by
      intro k
      induction k with
      | nil => exact ⟨s', h1, h2⟩
      | cons x k ih => cases x <;> simp only [wpIt] <;> exact ih
    exact this k
  | panic ch =>
    have : ∀ k : List It, wpIt P k (fun e a' w' => ∃ s', K e s' ∧ Sat F nt s' a' w') (.panic ch) a w := by
      intro k
      induction k with
      | nil => exact ⟨s', h1, h2⟩
      | cons x k ih => cases x <;> simp only [wpIt] <;> exact ih
    exact this k
  | outgrown =>
    have : ∀ k : List It, wpIt P k (fun e a' w' => ∃ s', K e s' ∧ Sat F nt s' a' w') .outgrown a w := by
      intro k
      induction k with
      | nil => exact ⟨s', h1, h2⟩
      | cons x k ih => cases x <;> simp only [wpIt] <;> exact ih
    exact this k

theorem TL.loop {X : Type _} (Inv : X → St) (Pre : X → Prop) (μ : X → Nat) {c : Code} (x0 : X) (h0 : Pre x0) (hle : Le fx ρ s (Inv x0))
    (round : ∀ x, Pre x → TL P nt fx [.code c] (Inv x) (loopK P nt fx k K fun s' => ∃ x' ρ, Pre x' ∧ μ x' < μ x ∧ Le fx ρ s' (Inv x'))) : TL P nt fx (.code (.loop c) :: k) s K := .mk fun F a w hf hs => by
  simp only [wpIt]
  refine wp_loop_ghost (fun n a w => ∃ x, Pre x ∧ μ x = n ∧ Sat F nt (Inv x) a w) (μ x0) ⟨x0, h0, rfl, hs.le hle hf⟩ ?_
  rintro n a w ⟨x, hx, rfl, hsx⟩
  have := (round x hx).run F a w hf hsx
  simp only [wpIt] at this
  refine Code.wp_mono (fun e a' w' h => loopK.run hf (fun s a w hR hsat => ?_) h) this
  obtain ⟨x', ρ, h1, h2, h3⟩ := hR
  exact ⟨μ x', h2, x', h1, rfl, hsat.le h3 hf⟩

/-- A loop whose first round leaves it. -/
theorem TL.loop1 {c : Code} (round : TL P nt fx [.code c] s (loopK P nt fx k K fun _ => False)) : TL P nt fx (.code (.loop c) :: k) s K := .mk fun F a w hf hs => by
  simp only [wpIt]
  refine wp_loop_ghost (fun _ a w => Sat F nt s a w) 0 hs ?_
  intro n a w hsx
  have := round.run F a w hf hsx
  simp only [wpIt] at this
  exact Code.wp_mono (fun e a' w' h => loopK.run hf (fun s a w hR hsat => hR.elim) h) this
theorem TL.cut {X : Type _} (Mid : X → St) (Pre : X → Prop) {c : Code} (h1 : TL P nt fx [.code c] s (loopK P nt fx k K fun s' => ∃ x ρ, Pre x ∧ Le fx ρ s' (Mid x))) (h2 : ∀ x, Pre x → TL P nt fx k (Mid x) K) : TL P nt fx (.code c :: k) s K := .mk fun F a w hf hs => by
  have := h1.run F a w hf hs
  simp only [wpIt] at this ⊢
  refine Code.wp_mono (fun e a' w' h => ?_) this
  have h3 := loopK.run (Q := wpIt P k (fun e a' w' => ∃ s', K e s' ∧ Sat F nt s' a' w') .normal) hf (fun s a w hR hsat => by
    obtain ⟨x, ρ, hp, hl⟩ := hR
    exact (h2 x hp).run F a w hf (hsat.le hl hf)) h
  cases e <;> exact h3

/-- A slice that is nil, as a row of one's own. -/
theorem TL.viewNil {sl : List (Nat × SV)} {hp : List (Nat × Chunk)} (t id : Nat) (e : TypeId) {α : Type} (E : Enc α) (ht : getL sl t = some (.v (.slice none 0 0))) (hn : Nat.blt t nt = true) (hi : getL hp id = none) (h : TL P nt fx k ⟨(t, .a id 0) :: sl, (id, .own e E []) :: hp⟩ K) : TL P nt fx k ⟨sl, hp⟩ K := .mk fun F a w hf hs => by
  refine h.run F a w hf ?_
  obtain ⟨β, hs⟩ := hs
  have h1 := hs.new id (.own e E []) noBI hi (Fr.refl _ w) (by
    refine ⟨?_, by simp [upd_same, noBI], by simp [upd_same, noBI], by simp [upd_same, noBI]⟩
    simp only [upd_same, noBI, BI.ad, cond_true, List.length_nil]
    exact World.ownsRow_nil _ _ _ _) (fun g hg => by simp [Bl, Wr, upd_same, noBI] at hg) (by simp [Chunk.ids])
  obtain ⟨k1, k2, k3, k4, k5, k6⟩ := h1
  refine ⟨_, k1, k2, ?_, k4, ⟨?_, k5.2⟩, k6⟩
  · intro u y hu
    simp only [getL_cons] at hu
    split at hu
    · rename_i e
      subst e
      injection hu with hu
      subst hu
      have := hs.2.2.1 _ _ ht
      rw [this]
      simp [SV.den, upd_same, noBI, BI.dn]
    · exact k3 u y hu
  · intro u y hu i hi'
    simp only [getL_cons] at hu
    split at hu
    · injection hu with hu
      subst hu
      have : i = id := by simpa [SV.ids] using hi'
      subst this
      simp [getL_cons]
    · exact k5.1 u y hu i hi'
/-- The same where the slice lies in a cell. -/
theorem TL.viewNilC {sl : List (Nat × SV)} {hp : List (Nat × Chunk)} (i off id : Nat) (e : TypeId) {α : Type} (E : Enc α) {tt : TypeId} {cs : List SV} (hc : getL hp i = some (.cells tt cs)) (ho : cs[off]? = some (.v (.slice none 0 0))) (hi : getL hp id = none) (h : TL P nt fx k ⟨sl, (i, .cells tt (cs.set off (.a id 0))) :: (id, .own e E []) :: hp⟩ K) : TL P nt fx k ⟨sl, hp⟩ K := .mk fun F a w hf hs => by
  refine h.run F a w hf ?_
  obtain ⟨β, hs⟩ := hs
  have h1 := hs.new id (.own e E []) noBI hi (Fr.refl _ w) (by
    refine ⟨?_, by simp [upd_same, noBI], by simp [upd_same, noBI], by simp [upd_same, noBI]⟩
    simp only [upd_same, noBI, BI.ad, cond_true, List.length_nil]
    exact World.ownsRow_nil _ _ _ _) (fun g hg => by simp [Bl, Wr, upd_same, noBI] at hg) (by simp [Chunk.ids])
  have hne : id ≠ i := by
    rintro rfl
    rw [hc] at hi
    cases hi
  have hci : getL ((id, Chunk.own e E []) :: hp) i = some (.cells tt cs) := by rw [getL_cons, if_neg hne]; exact hc
  have hden : denL (upd β id noBI) (cs.set off (.a id 0)) = denL (upd β id noBI) cs := by
    rw [denL_eq, denL_eq, List.map_set]
    have h2 : (SV.a id 0).den (upd β id noBI) = .slice none 0 0 := by simp [SV.den, upd_same, noBI, BI.dn]
    rw [h2]
    apply List.ext_getElem?
    intro q
    rw [List.getElem?_set]
    split
    · rename_i e1
      subst e1
      obtain ⟨hlt, he⟩ := List.getElem?_eq_some_iff.1 ho
      simp [hlt, he, SV.den]
    · rfl
  have hok := h1.2.2.2.1.1 i _ hci
  refine ⟨_, h1.rewrite i (.cells tt cs) (.cells tt (cs.set off (.a id 0))) hci (Fr.refl _ w) ?_ (fun g h => h) (fun g h => h) ?_⟩
  · obtain ⟨k1, k2, k3, k4⟩ := hok
    exact ⟨k1, k2, by rw [hden]; exact k3, k4⟩
  · intro j hj
    obtain ⟨x, hx, hjx⟩ := mem_idsL.1 hj
    rcases List.mem_or_eq_of_mem_set hx with h3 | h3
    · exact h1.2.2.2.2.1.2 i _ hci j (mem_idsL.2 ⟨x, h3, hjx⟩)
    · subst h3
      have : j = id := by simpa [SV.ids] using hjx
      subst this
      simp [getL_cons]
end
end Go.Proofs.Ytiboffhdabeiiaa
