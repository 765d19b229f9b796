/-
  The symbolic state: what a function does (Spec), shown from its code and used at a call. Plain lemmas over any program.
-/
import Derived.Test.YtiboffhdabeiiaaSxJ
namespace Go.Proofs.Ytiboffhdabeiiaa
open Go Go.RowKit

def wrS (β : Nat → BI) (pre : List (Nat × Chunk)) (g : Nat) : Prop := ∃ i c, getL pre i = some c ∧ Wr β i c g
def spF (β : Nat → BI) (pre : List (Nat × Chunk)) (w : World) : Fm := ⟨w, wrS β pre, [], β⟩
/-- Called with args, where pre lies behind their names, the function returns res, and post lies behind the names that are new, or were written. -/
def Spec (P : Program) (f : FuncId) (args : List SV) (pre : List (Nat × Chunk)) (res : SV) (post : List (Nat × Chunk)) : Prop :=
  (∀ (as : Array Value) (w : World), (callFunc f as).run P w = .ok (.enter f as) w) ∧
  ∀ (β : Nat → BI) (w : World), HOk (spF β pre w) β pre w → Calls P f (denL β args).toArray w fun e w' =>
    ∃ β', (∀ i, (getL pre i).isSome = true → β' i = β i) ∧ e = .returned (res.den β') ∧ HOk (spF β pre w) β' post w' ∧ Fr (wrS β pre) w w'

section
variable {P : Program} {nt : Nat} {fx : List Nat} {F F' : Fm} {β β' : Nat → BI} {s s' : St} {a : Act} {w w' : World} {id : Nat} {c c' : Chunk} {ρ : Nat → Nat}

theorem ChOk.frame (h : ChOk F β id w c) (hm : ∀ g, Wr β id c g → F'.mine g) : ChOk F' β id w c := by
  cases c with
  | cells t cs => exact ⟨h.1, h.2.1, h.2.2.1, hm _ rfl⟩
  | ro E l => exact h
  | mt E l => exact ⟨h.1, fun hl => ⟨hm _ ⟨hl, rfl⟩, (h.2 hl).2⟩⟩
  | own e E l => exact ⟨h.1, h.2.1, fun hn => hm _ ⟨hn, rfl⟩, h.2.2.2⟩
  | obj X => exact ⟨h.1, fun g hg => hm g hg⟩
  | dead => trivial

/-- A result, as a return hands it on. -/
inductive Res1 (P : Program) : ResultVar → St → SV → Prop
  | tmp {s : St} {t : Nat} {X : SV} (h : getL s.sl t = some X) : Res1 P (.tmp t) s X
  | cell {s : St} {t id n : Nat} {T tt : TypeId} {X : SV} {cs : List SV} [hT : TyShape P T false n] (h : getL s.sl t = some (.p id 0)) (hc : getL s.hp id = some (.cells tt cs)) (hX : cs[0]? = some X) : Res1 P (.cell t T) s X
  | agg {s : St} {t id n : Nat} {T tt : TypeId} {cs : List SV} [hT : TyShape P T true n] (h : getL s.sl t = some (.p id 0)) (hc : getL s.hp id = some (.cells tt cs)) (hn : Nat.beq cs.length n = true) : Res1 P (.cell t T) s (.agg cs)
def resVar (tmps : Array Value) (r : ResultVar) : Sem Value := match r with | .tmp t => pure (tmps.getD t undef) | .cell b t => do loadVar t (← asAddr (tmps.getD b undef))
theorem results_eq (fn : Func) (tmps : Array Value) : results fn tmps = (do
    let vs ← fn.results.mapM (resVar tmps)
    pure (if h : vs.size = 1 then vs[0] else .tuple vs)) := rfl
theorem Res1.run {r : ResultVar} {X : SV} (h : Res1 P r s X) (hs : SatB F nt β s a w) : (resVar a.tmps r).run P w = .ok (X.den β) w := by
  have g : ∀ {t : Nat} {X : SV}, getL s.sl t = some X → a.tmps.getD t undef = X.den β := fun h => by rw [Array.getD_eq_getD_getElem?, hs.2.2.1 _ _ h]; rfl
  cases h with
  | tmp h => simp only [resVar, g h]; rfl
  | cell h hc hX =>
    rename_i t id n T tt cs hT
    simp [resVar, g h, SV.den, asAddr, loadVar, run_isAgg' hT.h, cells_at (hs.2.2.2.1.1 _ _ hc) hX]
  | agg h hc hn =>
    rename_i t id n T tt cs hT
    have hn' := Nat.eq_of_beq_eq_true hn
    have h7 := run_loadCells_list (P := P) (w := w) ⟨(β id).B, 0, none⟩ (denL β cs) (fun i v hv => by
      rw [denL_eq, List.getElem?_map] at hv
      cases hx : cs[i]? with
      | none => rw [hx] at hv; cases hv
      | some X =>
        rw [hx] at hv
        injection hv with hv
        rw [add_lit, ← hv, Nat.zero_add]
        exact cells_at (hs.2.2.2.1.1 _ _ hc) hx)
    rw [denL_len, hn'] at h7
    simp only [resVar, g h, SV.den, asAddr, loadVar, Sem.run_bind, Sem.run_pure, Result.andThen_ok, run_isAgg' hT.h, if_true, run_sizeOf' hT.hn, h7]
inductive ResS (P : Program) : Array ResultVar → St → SV → Prop
  | none {s : St} : ResS P #[] s (.tup [])
  | one {s : St} {r : ResultVar} {X : SV} (h : Res1 P r s X) : ResS P #[r] s X
  | two {s : St} {r r2 : ResultVar} {X Y : SV} (h : Res1 P r s X) (h2 : Res1 P r2 s Y) : ResS P #[r, r2] s (.tup [X, Y])
  | three {s : St} {r r2 r3 : ResultVar} {X Y Z : SV} (h : Res1 P r s X) (h2 : Res1 P r2 s Y) (h3 : Res1 P r3 s Z) : ResS P #[r, r2, r3] s (.tup [X, Y, Z])
theorem ResS.run {fn : Func} {X : SV} (h : ResS P fn.results s X) (hs : SatB F nt β s a w) : (results fn a.tmps).run P w = .ok (X.den β) w := by
  generalize hr : fn.results = r at h
  cases h with
  | none => simp [results_eq, hr, SV.den, denL]
  | one h =>
    have := h.run hs
    simp only [results_eq, hr]
    simp [this]
  | two h h2 =>
    have k1 := h.run hs
    have k2 := h2.run hs
    simp only [results_eq, hr]
    simp [k1, k2, SV.den, denL]
  | three h h2 h3 =>
    have k1 := h.run hs
    have k2 := h2.run hs
    have k3 := h3.run hs
    simp only [results_eq, hr]
    simp [k1, k2, k3, SV.den, denL]

def retB (fx : List Nat) (pre post : List (Nat × Chunk)) (res : SV) : Bool :=
  (res.ids ++ post.flatMap fun p => p.1 :: p.2.ids).all fun i => !inB' pre i || fx.contains i
/-- What is to hold where a function returns. -/
structure RetOk (P : Program) (fx : List Nat) (rs : Array ResultVar) (pre post : List (Nat × Chunk)) (res : SV) (ρ : Nat → Nat) (s : St) : Prop where
  rs_ : ResS P rs s (res.ren ρ)
  hp_ : LeH ρ s.hp post
  ck : (nodupB (post.map fun p => ρ p.1) && fxB fx ρ s.hp && retB fx pre post res) = true
def retK (P : Program) (fx : List Nat) (rs : Array ResultVar) (pre post : List (Nat × Chunk)) (res : SV) : Exit → St → Prop
  | .normal, s => ∃ ρ, RetOk P fx rs pre post res ρ s
  | .ret, s => ∃ ρ, RetOk P fx rs pre post res ρ s
  | _, _ => False
def numL (k : Nat) : List SV → List (Nat × SV)
  | [] => []
  | x :: l => (k, x) :: numL (k + 1) l
theorem numL_at : ∀ (l : List SV) (k t : Nat) (x : SV), getL (numL k l) t = some x → k ≤ t ∧ l[t - k]? = some x
  | y :: l, k, t, x, h => by
    simp only [numL, getL_cons] at h
    split at h
    · rename_i e
      subst e
      injection h with h
      subst h
      simp
    · obtain ⟨h1, h2⟩ := numL_at l (k + 1) t x h
      refine ⟨by omega, ?_⟩
      rw [show t - k = (t - (k + 1)) + 1 by omega]
      simpa using h2
def argB (args : List SV) (pre : List (Nat × Chunk)) (fx : List Nat) : Bool := args.all (fun x => x.ids.all (inB' pre)) && pre.all (fun p => p.2.ids.all (inB' pre)) && fx.all (inB' pre)

theorem Spec.mk {f : FuncId} {fn : Func} {c : Code} {args : List SV} {pre post : List (Nat × Chunk)} {res : SV} {rs : Array ResultVar} (fx : List Nat) (hc : ∀ (as : Array Value) (w : World), (callFunc f as).run P w = .ok (.enter f as) w) (hf : P.funcs[f]? = some fn) (hn : fn.ntmps = nt) (hr : fn.results = rs) (hb : fn.body = some c)
    (hal : Nat.ble args.length nt = true) (hck : argB args pre fx = true) (h : TL P nt fx [.code c] ⟨numL 0 args, pre⟩ (retK P fx rs pre post res)) : Spec P f args pre res post := by
  refine ⟨hc, fun β w hok => calls_of_wp hf hb ?_⟩
  simp only [argB, Bool.and_eq_true] at hck
  obtain ⟨⟨k1, k2⟩, k3⟩ := hck
  have hal' := Nat.le_of_ble_eq_true hal
  have hin : ∀ i, inB' pre i = true → (getL pre i).isSome = true := fun i hi => hi
  have hsat : SatB ⟨w, wrS β pre, fx, β⟩ nt β ⟨numL 0 args, pre⟩ { tmps := (denL β args).toArray ++ Array.replicate (fn.ntmps - (denL β args).toArray.size) undef, defers := [] } w := by
    refine ⟨⟨rfl, fun i hi => ⟨List.all_eq_true.1 k3 i hi, rfl⟩⟩, ?_, ?_, ⟨fun i c hi => (hok.1 i c hi).frame (fun g hg => .inr ⟨i, c, hi, hg⟩), hok.2⟩, ⟨?_, ?_⟩, Fr.refl _ _⟩
    · simp [denL_len, hn]
      omega
    · intro t x ht
      obtain ⟨_, h2⟩ := numL_at args 0 t x ht
      have h3 : (denL β args)[t]? = some (x.den β) := by rw [denL_eq, List.getElem?_map]; simp at h2; rw [h2]; rfl
      have hlt := (List.getElem?_eq_some_iff.1 h3).1
      rw [Array.getElem?_append_left (by simpa using hlt)]
      simpa using h3
    · intro t x ht i hi
      obtain ⟨_, h2⟩ := numL_at args 0 t x ht
      exact List.all_eq_true.1 (List.all_eq_true.1 k1 x (List.mem_of_getElem? h2)) i hi
    · intro i c hi j hj
      exact List.all_eq_true.1 (List.all_eq_true.1 k2 _ (getL_mem hi)) j hj
  have h1 := h.run ⟨w, wrS β pre, fx, β⟩ _ w rfl ⟨β, hsat⟩
  simp only [wpIt] at h1
  refine Code.wp_mono (fun e a' w' h2 => ?_) h1
  obtain ⟨s', h3, β1, hs1⟩ := h2
  have fin : ∀ ρ, RetOk P fx rs pre post res ρ s' → a'.defers = [] ∧ ∃ v, (results fn a'.tmps).run P w' = .ok v w' ∧ ∃ β', (∀ i, (getL pre i).isSome = true → β' i = β i) ∧ Ending.returned v = .returned (res.den β') ∧ HOk (spF β pre w) β' post w' ∧ Fr (wrS β pre) w w' := by
    rintro ρ ⟨r1, r2, r3⟩
    simp only [Bool.and_eq_true] at r3
    obtain ⟨⟨c1, c2⟩, c3⟩ := r3
    have agree : ∀ i, i ∈ res.ids ++ post.flatMap (fun p => p.1 :: p.2.ids) → (fun i => if (getL pre i).isSome = true then β i else β1 (ρ i)) i = β1 (ρ i) := by
      intro i hi
      dsimp only
      by_cases hp : (getL pre i).isSome = true
      · rw [if_pos hp]
        have hfx := List.all_eq_true.1 c3 i hi
        have hpi : inB' pre i = true := hp
        rw [hpi] at hfx
        simp at hfx
        have h4 := List.all_eq_true.1 c2 i hfx
        simp only [Bool.and_eq_true] at h4
        rw [Nat.eq_of_beq_eq_true h4.2]
        exact ((hs1.1.2 i hfx).2).symm
      · rw [if_neg hp]
    refine ⟨hs1.1.1, _, ResS.run (by rw [hr]; exact r1) hs1, fun i => if (getL pre i).isSome = true then β i else β1 (ρ i), fun i hi => if_pos hi, ?_, ⟨?_, ?_⟩, hs1.2.2.2.2.2⟩
    · rw [SV.den_ren]
      congr 1
      exact (SV.den_congr res (fun i hi => agree i (List.mem_append_left _ hi))).symm
    · intro i c hi
      obtain ⟨c', hc', hl⟩ := r2.at_ hi
      have hm := getL_mem hi
      have h5 := ((hl.ok (hs1.2.2.2.1.1 _ _ hc')).ren).keep (w' := w') (β' := fun i => if (getL pre i).isSome = true then β i else β1 (ρ i)) (fun _ _ => rfl) (agree i (List.mem_append_right _ (List.mem_flatMap.2 ⟨_, hm, List.mem_cons_self ..⟩))).symm
        (fun j hj => (agree j (List.mem_append_right _ (List.mem_flatMap.2 ⟨_, hm, List.mem_cons_of_mem _ hj⟩))).symm)
      exact h5.frame (fun g hg => h5.mine hg)
    · intro i j ci cj hne hi hj g hw hb
      obtain ⟨ci', hci', hli⟩ := r2.at_ hi
      obtain ⟨cj', hcj', hlj⟩ := r2.at_ hj
      have hmi := getL_mem hi
      have hmj := getL_mem hj
      have hn := nodupB_spec c1 _ hmi _ hmj hne
      have ai := agree i (List.mem_append_right _ (List.mem_flatMap.2 ⟨_, hmi, List.mem_cons_self ..⟩))
      have aj := agree j (List.mem_append_right _ (List.mem_flatMap.2 ⟨_, hmj, List.mem_cons_self ..⟩))
      have hw' : Wr (fun i => β1 (ρ i)) i ci g := (Wr.congr (β := fun i => if (getL pre i).isSome = true then β i else β1 (ρ i)) (β' := fun i => β1 (ρ i)) ai g).1 hw
      have hb' : Bl (fun i => β1 (ρ i)) j cj g := (Bl.congr (β := fun i => if (getL pre i).isSome = true then β i else β1 (ρ i)) (β' := fun i => β1 (ρ i)) aj g).1 hb
      exact hs1.2.2.2.1.2 _ _ _ _ hn hci' hcj' g (hli.wr (hs1.2.2.2.1.1 _ _ hci') hw'.ren) (hlj.bl (hs1.2.2.2.1.1 _ _ hcj') hb'.ren)
  cases e with
  | normal => obtain ⟨ρ, h4⟩ := h3; exact fin ρ h4
  | ret => obtain ⟨ρ, h4⟩ := h3; exact fin ρ h4
  | exit id => exact h3.elim
  | goto l => exact h3.elim
  | panic ch => exact h3.elim
  | outgrown => exact h3.elim

/-! ### A call -/
inductive Match (σ : Nat → Nat) (hp : List (Nat × Chunk)) : List (Nat × Chunk) → List (Nat × Chunk) → Prop
  | nil : Match σ hp [] []
  | cons {i : Nat} {c c' : Chunk} {pre hin : List (Nat × Chunk)} (h : getL hp (σ i) = some c') (hl : ChLe c' (c.ren σ)) (k : Match σ hp pre hin) : Match σ hp ((i, c) :: pre) ((σ i, c') :: hin)
theorem Match.at_ {σ : Nat → Nat} {hp pre hin : List (Nat × Chunk)} (h : Match σ hp pre hin) : ∀ {i c}, getL pre i = some c → ∃ c', (σ i, c') ∈ hin ∧ ChLe c' (c.ren σ) := by
  induction h with
  | nil => intro i c h; simp [getL] at h
  | cons h hl k ih =>
    intro i c hg
    rw [getL_cons] at hg
    split at hg
    · rename_i e
      subst e
      injection hg with hg
      subst hg
      exact ⟨_, List.mem_cons_self .., hl⟩
    · obtain ⟨c', h1, h2⟩ := ih hg
      exact ⟨c', List.mem_cons_of_mem _ h1, h2⟩
theorem Match.pre_ {σ : Nat → Nat} {hp pre hin : List (Nat × Chunk)} (h : Match σ hp pre hin) : ∀ p ∈ hin, getL hp p.1 = some p.2 := by
  induction h with
  | nil => simp
  | cons h hl k ih =>
    intro p hp'
    rcases List.mem_cons.1 hp' with rfl | hp'
    · exact h
    · exact ih p hp'

def roC : Chunk → Bool
  | .ro _ _ => true
  | .dead => true
  | _ => false
def aliasB (σ : Nat → Nat) : List (Nat × Chunk) → Bool
  | [] => true
  | p :: l => l.all (fun q => (roC p.2 && roC q.2) || Nat.beq p.1 q.1 || !Nat.beq (σ p.1) (σ q.1)) && aliasB σ l
theorem aliasB_spec {σ : Nat → Nat} : ∀ {l : List (Nat × Chunk)}, aliasB σ l = true → ∀ p ∈ l, ∀ q ∈ l, p.1 ≠ q.1 → roC p.2 = false → σ p.1 ≠ σ q.1
  | [], _, p, hp, _, _, _, _ => by simp at hp
  | x :: l, h, p, hp, q, hq, hne, hro => by
    simp only [aliasB, Bool.and_eq_true] at h
    obtain ⟨h1, h2⟩ := h
    rcases List.mem_cons.1 hp with hp1 | hp1
    · rcases List.mem_cons.1 hq with hq1 | hq1
      · exact absurd (by rw [hp1, hq1]) hne
      · have := List.all_eq_true.1 h1 q hq1
        rw [← hp1, hro] at this
        simp only [Bool.false_and, Bool.false_or, Bool.or_eq_true, Bool.not_eq_true'] at this
        rcases this with h | h
        · exact absurd (Nat.eq_of_beq_eq_true h) hne
        · intro e
          rw [e] at h
          simp at h
    · rcases List.mem_cons.1 hq with hq1 | hq1
      · have := List.all_eq_true.1 h1 p hp1
        rw [← hq1, hro] at this
        simp only [Bool.and_false, Bool.false_or, Bool.or_eq_true, Bool.not_eq_true'] at this
        rcases this with h | h
        · exact absurd (Nat.eq_of_beq_eq_true h).symm hne
        · intro e
          rw [e] at h
          simp at h
      · exact aliasB_spec h2 p hp1 q hq1 hne hro
def newIds (pre post : List (Nat × Chunk)) : List Nat := (post.map (·.1)).filter fun i => !inB' pre i
def callB (σ : Nat → Nat) (pre post : List (Nat × Chunk)) (res : SV) : Bool :=
  aliasB σ pre && nodupB (post.map fun p => σ p.1) && pre.all (fun p => roC p.2 || inB' post p.1) && post.all (fun p => !roC p.2 || (match p.2 with | .dead => true | _ => false)) && (res.ids ++ post.flatMap fun p => p.2.ids).all fun i => inB' pre i || inB' post i
def renH (σ : Nat → Nat) (l : List (Nat × Chunk)) : List (Nat × Chunk) := l.map fun p => (σ p.1, p.2.ren σ)
theorem renH_at {σ : Nat → Nat} : ∀ {l : List (Nat × Chunk)} {j : Nat} {c : Chunk}, getL (renH σ l) j = some c → ∃ i c0, (i, c0) ∈ l ∧ σ i = j ∧ c = c0.ren σ
  | (i, c0) :: l, j, c, h => by
    simp only [renH, List.map_cons, getL_cons] at h
    split at h
    · rename_i e
      injection h with h
      exact ⟨i, c0, List.mem_cons_self .., e, h.symm⟩
    · obtain ⟨i', c', h1, h2⟩ := renH_at (l := l) h
      exact ⟨i', c', List.mem_cons_of_mem _ h1, h2⟩
theorem renH_some {σ : Nat → Nat} : ∀ {l : List (Nat × Chunk)} {i : Nat}, inB' l i = true → (getL (renH σ l) (σ i)).isSome = true
  | (k, c0) :: l, i, h => by
    simp only [inB', getL_cons] at h
    simp only [renH, List.map_cons, getL_cons]
    by_cases e : k = i
    · subst e
      simp
    · rw [if_neg e] at h
      split
      · rfl
      · exact renH_some h
theorem getL_of_nodup {σ : Nat → Nat} {l : List (Nat × Chunk)} (h : nodupB (l.map fun p => σ p.1) = true) {i : Nat} {c : Chunk} (hm : (i, c) ∈ l) : getL l i = some c := by
  induction l with
  | nil => simp at hm
  | cons p l ih =>
    simp only [List.map_cons, nodupB, Bool.and_eq_true] at h
    rw [show p = (p.1, p.2) from rfl, getL_cons]
    rcases List.mem_cons.1 hm with e | hm
    · rw [← e]
      simp
    · rw [if_neg]
      · exact ih h.2 hm
      · intro e
        have h1 := h.1
        simp at h1
        exact h1 i c hm (by rw [e])

def evL (sl : List (Nat × SV)) : List Operand → Option (List SV)
  | [] => some []
  | x :: l => match evS sl x, evL sl l with
    | some X, some r => some (X :: r)
    | _, _ => none
def insL : List Operand → List SV → List (Nat × SV)
  | x :: l, X :: r => insOf x X ++ insL l r
  | _, _ => []
theorem insL_pre {s : St} : ∀ {l : List Operand} {r : List SV}, evL s.sl l = some r → ∀ p ∈ insL l r, getL s.sl p.1 = some p.2
  | [], r, h, p, hp => by simp [insL] at hp
  | x :: l, r, h, p, hp => by
    simp only [evL] at h
    cases hx : evS s.sl x with
    | none => simp [hx] at h
    | some X =>
      cases hr : evL s.sl l with
      | none => simp [hx, hr] at h
      | some r' =>
        simp [hx, hr] at h
        subst h
        simp only [insL, List.mem_append] at hp
        rcases hp with hp | hp
        · exact insOf_pre hx p hp
        · exact insL_pre hr p hp
theorem insL_eval {sl : List (Nat × SV)} : ∀ {l : List Operand} {r : List SV}, evL sl l = some r → (∀ p ∈ insL l r, a.tmps[p.1]? = some (p.2.den β)) → l.map a.eval = denL β r
  | [], r, h, _ => by
    simp [evL] at h
    subst h
    rfl
  | x :: l, r, h, hp => by
    simp only [evL] at h
    cases hx : evS sl x with
    | none => simp [hx] at h
    | some X =>
      cases hr : evL sl l with
      | none => simp [hx, hr] at h
      | some r' =>
        simp [hx, hr] at h
        subst h
        simp only [insL] at hp
        rw [List.map_cons, denL, insL_eval hr (fun p hp' => hp p (List.mem_append_right _ hp')), eval_of (evC_of hx) (fun p hp' => hp p (List.mem_append_left _ hp'))]

def putD (d : Option Nat) (X : SV) (sl : List (Nat × SV)) : List (Nat × SV) := match d with
  | some t => (t, X) :: sl
  | none => sl
def dstB (nt : Nat) (d : Option Nat) : Bool := match d with
  | some t => Nat.blt t nt
  | none => true

theorem call_gen {sl : List (Nat × SV)} {hp : List (Nat × Chunk)} {d : Option Nat} {ty : TypeId} {pos : String} {af : Array Edge} {g : Option (Nat × Bool)} {fo : Operand} {f : FuncId} {caps : List SV} {xs : List Operand} {ats : Array TypeId} {Xs args : List SV} {pre post hin H : List (Nat × Chunk)} {res R : SV}
    (hspec : Spec P f args pre res post) (σ : Nat → Nat) (hfo : evS sl fo = some (.fn f caps)) (hxs : evL sl xs = some Xs) (hargs : renL σ args = Xs ++ caps) (hR : res.ren σ = R) (hH : renH σ post = H)
    (hm : Match σ hp pre hin) (hck : callB σ pre post res = true) (hfr : (newIds pre post).all (fun i => (getL hp (σ i)).isNone) = true) (ht : dstB nt d = true) :
    OpR P nt ⟨sl, hp⟩ ⟨d, .call { callee := .value fo, args := xs.toArray, argTypes := ats }, ty, pos, af, g⟩ ⟨insOf fo (.fn f caps) ++ insL xs Xs, hin, (newIds pre post).map σ, d, R, H⟩ ⟨putD d R sl, H ++ hp⟩ := by
  subst hR
  subst hH
  simp only [callB, Bool.and_eq_true] at hck
  obtain ⟨⟨⟨⟨c1, c2⟩, c3⟩, c4⟩, c5⟩ := hck
  refine ⟨⟨rfl, fun F s a w hs hpre => ?_⟩, ⟨?_, hm.pre_, ?_⟩, ?_⟩
  · obtain ⟨β, hs⟩ := hs
    obtain ⟨p1, p2, p3⟩ := hpre
    have q : ∀ p ∈ insOf fo (.fn f caps) ++ insL xs Xs, a.tmps[p.1]? = some (p.2.den β) := fun p hp => hs.2.2.1 _ _ (p1 p hp)
    have ef := eval_of (evC_of hfo) (fun p hp' => q p (List.mem_append_left _ hp'))
    have ex := insL_eval hxs (fun p hp' => q p (List.mem_append_right _ hp'))
    have fresh : ∀ i ∈ newIds pre post, getL s.hp (σ i) = none := fun i hi => p3 _ (List.mem_map.2 ⟨i, hi, rfl⟩)
    have look : ∀ {i c}, getL pre i = some c → ∃ c', getL s.hp (σ i) = some c' ∧ ChLe c' (c.ren σ) := fun hi => by
      obtain ⟨c', h1, h2⟩ := hm.at_ hi
      exact ⟨c', p2 _ h1, h2⟩
    have hok : HOk (spF (fun i => β (σ i)) pre w) (fun i => β (σ i)) pre w := by
      refine ⟨fun i c hi => ?_, fun i j ci cj hne hi hj g hw hb => ?_⟩
      · obtain ⟨c', h1, h2⟩ := look hi
        exact ((h2.ok (hs.2.2.2.1.1 _ _ h1)).ren).frame (fun g hg => .inr ⟨i, c, hi, hg⟩)
      · obtain ⟨ci', h1, h2⟩ := look hi
        obtain ⟨cj', h3, h4⟩ := look hj
        have hro : roC ci = false := by cases ci <;> first | rfl | exact hw.elim
        have hn := aliasB_spec c1 _ (getL_mem hi) _ (getL_mem hj) hne hro
        exact hs.2.2.2.1.2 _ _ _ _ hn h1 h3 g (h2.wr (hs.2.2.2.1.1 _ _ h1) hw.ren) (h4.bl (hs.2.2.2.1.1 _ _ h3) hb.ren)
    have hcalls := hspec.2 (fun i => β (σ i)) w hok
    have hargs' : (xs.toArray.map a.eval ++ (denL β caps).toArray) = (denL (fun i => β (σ i)) args).toArray := by
      rw [← denL_ren β σ args, hargs, denL_append, ← ex]
      simp
    have hrun : (execOp a.eval ⟨d, .call { callee := .value fo, args := xs.toArray, argTypes := ats }, ty, pos, af, g⟩).run P w = .ok (.enter f (denL (fun i => β (σ i)) args).toArray) w := by
      simp only [execOp, resolve, ef, SV.den, Deferred.ofValue, Sem.run_bind, Sem.run_pure, Result.andThen_ok, invoke, Array.empty_append]
      rw [hargs']
      exact hspec.1 _ w
    unfold Oper.wp
    rw [hrun]
    simp only [Oper.upon]
    refine hcalls.mono ?_
    rintro e w' ⟨β1, b1, rfl, hok1, hfr1⟩
    dsimp only
    let β2 : Nat → BI := fun j => match (newIds pre post).find? (fun i => Nat.beq (σ i) j) with
      | some i => β1 i
      | none => β j
    have b2old : ∀ j, (getL s.hp j).isSome = true → β j = β2 j := by
      intro j hj
      show β j = match (newIds pre post).find? (fun i => Nat.beq (σ i) j) with | some i => β1 i | none => β j
      cases hfi : (newIds pre post).find? (fun i => Nat.beq (σ i) j) with
      | none => rfl
      | some i =>
        have h1 := List.find?_some hfi
        have h2 := fresh i (List.mem_of_find?_eq_some hfi)
        rw [Nat.eq_of_beq_eq_true h1] at h2
        rw [h2] at hj
        cases hj
    have postAt : ∀ i, inB' post i = true → inB' pre i = false → i ∈ newIds pre post := by
      intro i hi hn
      refine List.mem_filter.2 ⟨?_, by simp [hn]⟩
      obtain ⟨c, hc⟩ := Option.isSome_iff_exists.1 hi
      exact List.mem_map.2 ⟨_, getL_mem hc, rfl⟩
    have b2 : ∀ i, inB' pre i = true ∨ inB' post i = true → β2 (σ i) = β1 i := by
      intro i hi
      cases hp : inB' pre i
      · have hpo : inB' post i = true := hi.resolve_left (by rw [hp]; simp)
        have hnew := postAt i hpo hp
        show (match (newIds pre post).find? (fun k => Nat.beq (σ k) (σ i)) with | some k => β1 k | none => β (σ i)) = β1 i
        cases hfi : (newIds pre post).find? (fun k => Nat.beq (σ k) (σ i)) with
        | none =>
          have := List.find?_eq_none.1 hfi i hnew
          simp at this
        | some k =>
          have h1 := List.find?_some hfi
          have h1 := Nat.eq_of_beq_eq_true h1
          have h2 := List.mem_of_find?_eq_some hfi
          obtain ⟨h3, _⟩ := List.mem_filter.1 h2
          obtain ⟨pk, h4, h5⟩ := List.mem_map.1 h3
          obtain ⟨c, hc⟩ := Option.isSome_iff_exists.1 hpo
          by_cases hki : k = i
          · rw [hki]
          · exact absurd h1 (by rw [← h5]; exact nodupB_spec c2 _ h4 _ (getL_mem hc) (by rw [h5]; exact hki))
      · obtain ⟨c, hc⟩ := Option.isSome_iff_exists.1 hp
        obtain ⟨c', h1, _⟩ := look hc
        rw [← b2old (σ i) (by rw [h1]; rfl)]
        exact (b1 i hp).symm
    have wrSome : ∀ {i c g}, getL pre i = some c → Wr (fun i => β (σ i)) i c g → ∃ j c0, getL s.hp j = some c0 ∧ (getL (renH σ post) j).isSome = true ∧ Wr β j c0 g := by
      intro i c g hi hw
      obtain ⟨c', h1, h2⟩ := look hi
      refine ⟨σ i, c', h1, ?_, h2.wr (hs.2.2.2.1.1 _ _ h1) hw.ren⟩
      have h3 := List.all_eq_true.1 c3 _ (getL_mem hi)
      have hro : roC c = false := by cases c <;> first | rfl | exact hw.elim
      dsimp only at h3
      rw [hro, Bool.false_or] at h3
      exact renH_some h3
    have chunkAt : ∀ {j c}, getL (renH σ post) j = some c → ∃ i c0, getL post i = some c0 ∧ σ i = j ∧ c = c0.ren σ ∧ (i, c0) ∈ post := by
      intro j c hj
      obtain ⟨i, c0, h1, h2, h3⟩ := renH_at hj
      exact ⟨i, c0, getL_of_nodup c2 h1, h2, h3, h1⟩
    have idsOk : ∀ {i c0}, (i, c0) ∈ post → ∀ j ∈ c0.ids, inB' pre j = true ∨ inB' post j = true := by
      intro i c0 hm j hj
      have := List.all_eq_true.1 c5 j (List.mem_append_right _ (List.mem_flatMap.2 ⟨_, hm, hj⟩))
      simpa using this
    have inPost : ∀ {i c0}, getL post i = some c0 → inB' pre i = true ∨ inB' post i = true := fun h => .inr (by unfold inB'; rw [h]; rfl)
    have wrRen : ∀ {i c0 g}, getL post i = some c0 → Wr β2 (σ i) (c0.ren σ) g → Wr β1 i c0 g := by
      intro i c0 g hi hw
      have h1 : Wr (fun i => β2 (σ i)) i c0 g := by cases c0 <;> exact hw
      exact (Wr.congr (β := fun i => β2 (σ i)) (β' := β1) (b2 i (inPost hi)) g).1 h1
    have blWr : ∀ {i c0 g}, (i, c0) ∈ post → Bl β2 (σ i) (c0.ren σ) g → Wr β2 (σ i) (c0.ren σ) g := by
      intro i c0 g hm hb
      have h1 := List.all_eq_true.1 c4 _ hm
      cases c0 <;> first | exact hb | (simp [roC] at h1)
    have mine : ∀ {i c0 g}, getL post i = some c0 → Wr β1 i c0 g → w.heap.size ≤ g ∨ ∃ j c0, getL s.hp j = some c0 ∧ (getL (renH σ post) j).isSome = true ∧ Wr β j c0 g := by
      intro i c0 g hi hw
      rcases (hok1.1 i c0 hi).mine hw with h | ⟨i2, c2', h2, h3⟩
      · exact .inl h
      · exact .inr (wrSome h2 h3)
    have hmv := hs.move (β' := β2) (w' := w') (T := wrS (fun i => β (σ i)) pre) (renH σ post) b2old hfr1 (fun g hg => by
        obtain ⟨i, c, hi, hw⟩ := hg
        exact wrSome hi hw)
      (fun j c hj => by
        obtain ⟨i, c0, h1, rfl, rfl, hm⟩ := chunkAt hj
        have h2 := (hok1.1 i c0 h1).keep (w' := w') (β' := fun i => β2 (σ i)) (fun _ _ => rfl) (b2 i (inPost h1)).symm (fun j hj => (b2 j (idsOk hm j hj)).symm)
        have h3 : ChOk F (fun i => β2 (σ i)) i w' c0 := h2.frame (fun g hg => by
          rcases h2.mine hg with h | ⟨i2, c2', h4, h5⟩
          · have := hs.2.2.2.2.2.size
            exact .inl (Nat.le_trans this h)
          · obtain ⟨j2, c3', h6, _, h7⟩ := wrSome h4 h5
            exact (hs.2.2.2.1.1 _ _ h6).mine h7)
        cases c0 with
        | cells t cs =>
          simp only [Chunk.ren, ChOk] at h3 ⊢
          rw [denL_ren]
          exact h3
        | _ => exact h3)
      (fun j c g hj hg => by
        obtain ⟨i, c0, h1, rfl, rfl, hm⟩ := chunkAt hj
        exact mine h1 (wrRen h1 hg))
      (fun j c g hj hg => by
        obtain ⟨i, c0, h1, rfl, rfl, hm⟩ := chunkAt hj
        rcases mine h1 (wrRen h1 (blWr hm hg)) with h | ⟨k, ck, h2, h3, h4⟩
        · exact .inl h
        · exact .inr ⟨k, ck, h2, h4.bl, .inl h3⟩)
      (fun j k cj ck hne hj hk g hg hb => by
        obtain ⟨i1, d1, h1, rfl, rfl, hm1⟩ := chunkAt hj
        obtain ⟨i2, d2, h2, rfl, rfl, hm2⟩ := chunkAt hk
        exact hok1.2 i1 i2 d1 d2 (fun e => hne (by rw [e])) h1 h2 g (wrRen h1 hg) (wrRen h2 (blWr hm2 hb)).bl)
      (fun j c hj k hk => by
        obtain ⟨i, c0, h1, rfl, rfl, hm⟩ := chunkAt hj
        rw [Chunk.ids_ren] at hk
        obtain ⟨q, hq, rfl⟩ := List.mem_map.1 hk
        rcases idsOk hm q hq with h | h
        · obtain ⟨cq, hcq⟩ := Option.isSome_iff_exists.1 h
          obtain ⟨c', h2, _⟩ := look hcq
          exact isSome_app (by rw [h2]; rfl)
        · rw [getL_append]
          have := renH_some (σ := σ) h
          obtain ⟨cq, hcq⟩ := Option.isSome_iff_exists.1 this
          rw [hcq]
          rfl)
    have resOk : ∀ i ∈ res.ids, inB' pre i = true ∨ inB' post i = true := by
      intro i hi
      have := List.all_eq_true.1 c5 i (List.mem_append_left _ hi)
      simpa using this
    have hden : (res.ren σ).den β2 = res.den β1 := by
      rw [SV.den_ren]
      exact SV.den_congr res (fun i hi => b2 i (resOk i hi))
    have hids : ∀ i ∈ (res.ren σ).ids, (getL (renH σ post ++ s.hp) i).isSome = true := by
      intro i hi
      rw [SV.ids_ren] at hi
      obtain ⟨q, hq, rfl⟩ := List.mem_map.1 hi
      rcases resOk q hq with h | h
      · obtain ⟨cq, hcq⟩ := Option.isSome_iff_exists.1 h
        obtain ⟨c', h2, _⟩ := look hcq
        exact isSome_app (by rw [h2]; rfl)
      · rw [getL_append]
        obtain ⟨cq, hcq⟩ := Option.isSome_iff_exists.1 (renH_some (σ := σ) h)
        rw [hcq]
        rfl
    cases d with
    | none => exact ⟨β2, hmv⟩
    | some t =>
      have := hmv.put (t := t) (x := res.ren σ) (by simp [dstB, Nat.blt] at ht; omega) hids
      rw [hden] at this
      exact ⟨β2, this⟩
  · intro p hp'
    rcases List.mem_append.1 hp' with h1 | h1
    · exact insOf_pre (s := ⟨sl, hp⟩) hfo p h1
    · exact insL_pre (s := ⟨sl, hp⟩) hxs p h1
  · intro i hi
    obtain ⟨k, hk, rfl⟩ := List.mem_map.1 hi
    have := List.all_eq_true.1 hfr k hk
    simpa using this
  · cases d <;> rfl
/-- Names by a list. -/
def sg (l : List (Nat × Nat)) (i : Nat) : Nat := (getL l i).getD i
/-- An argument without elements, whatever it is. -/
theorem Spec.empties {f : FuncId} {id : Nat} {α : Type} {E : Enc α} {res : SV} {post : List (Nat × Chunk)} (hck : ((res.ids ++ post.flatMap fun p => p.1 :: p.2.ids).all fun i => !Nat.beq i id) = true) (h : ∀ ao cp, Spec P f [.v (.slice ao 0 cp)] [] res post) : Spec P f [.a id 0] [(id, .ro E [])] res post := by
  refine ⟨(h none 0).1, fun β w hok => ?_⟩
  have h1 := (h (β id).dn (β id).cap).2 β w ⟨fun i c hi => by simp [getL] at hi, fun i j ci cj _ hi => by simp [getL] at hi⟩
  refine (show Calls P f (denL β [.a id 0]).toArray w _ from h1).mono ?_
  rintro e w' ⟨β1, _, rfl, hok1, hfr⟩
  have noW : ∀ g, ¬ wrS β [] g := by rintro g ⟨i, c, hi, _⟩; simp [getL] at hi
  have agree : ∀ i, i ∈ res.ids ++ post.flatMap (fun p => p.1 :: p.2.ids) → upd β1 id (β id) i = β1 i := fun i hi => by
    have := List.all_eq_true.1 hck i hi
    exact upd_other _ _ (fun e => by subst e; simp at this)
  refine ⟨upd β1 id (β id), fun i hi => ?_, ?_, ⟨fun i c hi => ?_, fun i j ci cj hne hi hj g hw hb => ?_⟩, hfr.mono (fun g _ hg => (noW g hg).elim)⟩
  · have : i = id := by
      simp only [getL_cons] at hi
      split at hi
      · rename_i e; exact e.symm
      · simp [getL] at hi
    subst this
    rw [upd_same]
  · congr 1
    exact SV.den_congr res (fun i hi => (agree i (List.mem_append_left _ hi)).symm)
  · have hm := getL_mem hi
    have h5 := (hok1.1 i c hi).keep (w' := w') (β' := upd β1 id (β id)) (fun _ _ => rfl) (agree i (List.mem_append_right _ (List.mem_flatMap.2 ⟨_, hm, List.mem_cons_self ..⟩))).symm
      (fun j hj => (agree j (List.mem_append_right _ (List.mem_flatMap.2 ⟨_, hm, List.mem_cons_of_mem _ hj⟩))).symm)
    refine h5.frame (fun g hg => ?_)
    rcases h5.mine hg with h6 | h6
    · exact .inl h6
    · exact (noW g h6).elim
  · have ai := agree i (List.mem_append_right _ (List.mem_flatMap.2 ⟨_, getL_mem hi, List.mem_cons_self ..⟩))
    have aj := agree j (List.mem_append_right _ (List.mem_flatMap.2 ⟨_, getL_mem hj, List.mem_cons_self ..⟩))
    exact hok1.2 i j ci cj hne hi hj g ((Wr.congr ai g).1 hw) ((Bl.congr aj g).1 hb)
end
end Go.Proofs.Ytiboffhdabeiiaa
