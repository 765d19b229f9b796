/-
  The symbolic state: a range over a function: a round's word, the loop, the call of yield. Plain lemmas over any program.
(Joined texts.)
-/
import Derived.Test.YtiboffhdabeiiaaSxL
namespace Go.Proofs.Ytiboffhdabeiiaa
open Go Go.RowKit

/-- A call of the yield whose record lies behind q. -/
def YC (P : Program) (q : Nat) (args : List SV) (β : Nat → BI) (w : World) (R : Ending → World → Prop) : Prop :=
  ∃ fn tmps assign body, (Instr.yield (β q).B (denL β args).toArray).run P w = .ok (.round (β q).B fn tmps assign body) w ∧ RoundIn Fence.wide 0 P (β q).B fn tmps assign body w R
/-- Yield, called with args where pre lies behind their names, returns res, and post lies behind. -/
def YSpec (P : Program) (q : Nat) (args : List SV) (pre : List (Nat × Chunk)) (res : SV) (post : List (Nat × Chunk)) : Prop := SpecC (YC P q args) pre res post
theorem YC.mono {P : Program} {q : Nat} {args : List SV} (β : Nat → BI) (w : World) (R R' : Ending → World → Prop) (h : YC P q args β w R) (hr : ∀ e w', R e w' → R' e w') : YC P q args β w R' := by
  obtain ⟨fn, tmps, assign, body, h1, h2⟩ := h
  exact ⟨fn, tmps, assign, body, h1, h2.mono hr⟩

section
variable {P : Program} {nt : Nat} {fx : List Nat} {F : Fm} {β : Nat → BI} {s s' : St} {a : Act} {w w' : World} {ρ : Nat → Nat}

theorem SatB.defers (h : SatB F nt β s a w) {ds : List Deferred} (hd : DfOk F ds w) : SatB F nt β s { a with defers := ds } w := ⟨⟨hd, h.1.2⟩, h.2.1, h.2.2.1, h.2.2.2.1, h.2.2.2.2.1, h.2.2.2.2.2⟩
/-- The record of a loop, turned. -/
theorem SatB.turn (h : SatB F nt β s a w) {q : Nat} {I : LpI} {sl : List (Nat × SV)} {st st' : LoopState} {pe pe' : Option Code} (hq : getL s.hp q = some (.lp I sl st pe)) {fn : FuncId} {tmps : Array Value} {D : Nat} (hh : w.heap[(β q).B]? = some (.loop ⟨st, pe, fn, tmps, I.ps, I.assign, I.body, D⟩)) (hn : tmps.size = I.nt) (hsl : SlOk β tmps sl) :
    SatB F nt β ⟨s.sl, (q, .lp I sl st' pe') :: s.hp⟩ a (w.putObj (β q).B (.loop ⟨st', pe', fn, tmps, I.ps, I.assign, I.body, D⟩)) := by
  have hlt := (Array.getElem?_eq_some_iff.1 hh).1
  obtain ⟨_, _, _, _, hm⟩ := h.2.2.2.1.1 q _ hq
  exact h.rewrite q _ (.lp I sl st' pe') hq ⟨rfl, rfl, rfl, by simp, fun k _ hk => World.putObj_heap_other hk⟩ ⟨fn, tmps, D, ⟨World.putObj_heap_same hlt, hn, hsl⟩, hm⟩ (fun g hg => hg) (fun g hg => hg) (fun j hj => h.2.2.2.2.1.2 q _ hq j hj)
theorem SatB.shut (h : SatB F nt β s a w) {q : Nat} {I : LpI} {sl : List (Nat × SV)} {st : LoopState} {pe : Option Code} (hq : getL s.hp q = some (.lp I sl st pe)) (o : Obj) :
    SatB F nt β ⟨s.sl, (q, .dead) :: s.hp⟩ a (w.putObj (β q).B o) :=
  h.rewrite q _ .dead hq ⟨rfl, rfl, rfl, by simp, fun k _ hk => World.putObj_heap_other hk⟩ trivial (fun g hg => hg.elim) (fun g hg => hg.elim) (fun j hj => by simp [Chunk.ids] at hj)

/-! ### A round -/
structure RnOk (fx : List Nat) (q : Nat) (I : LpI) (sl : List (Nat × SV)) (pre post : List (Nat × Chunk)) (res : SV) (st : LoopState) (pe : Option Code) (b : Bool) (ρ : Nat → Nat) (s : St) : Prop where
  rec_ : getL s.hp q = some (.lp I sl .busy none)
  res_ : res = .v (.bool b)
  hp_ : LeH ρ ((q, .lp I sl st pe) :: s.hp) post
  ck : (nodupB (post.map fun p => ρ p.1) && fxB fx ρ ((q, .lp I sl st pe) :: s.hp) && retB fx pre post res) = true
def rndK (fx : List Nat) (q : Nat) (I : LpI) (sl : List (Nat × SV)) (pre post : List (Nat × Chunk)) (res : SV) : Exit → St → Prop
  | .normal, s => ∃ ρ, RnOk fx q I sl pre post res .ready none true ρ s
  | .ret, s => ∃ ρ, RnOk fx q I sl pre post res .done (some .ret) false ρ s
  | .exit id, s => ∃ ρ, RnOk fx q I sl pre post res .done (some (.exit id)) false ρ s
  | _, _ => False
def asK (P : Program) (nt : Nat) (fx : List Nat) (q : Nat) (I : LpI) (sl : List (Nat × SV)) (K : Exit → St → Prop) : Exit → St → Prop
  | .normal, s => getL s.hp q = some (.lp I sl .ready none) ∧ TL P nt fx [.code I.body] ⟨s.sl, (q, .lp I sl .busy none) :: s.hp⟩ K
  | _, _ => False
def setS : List Tmp → List SV → List (Nat × SV) → List (Nat × SV)
  | p :: ps, x :: xs, sl => setS ps xs ((p, x) :: sl)
  | _, _, sl => sl
def setV : List Tmp → List Value → Array Value → Array Value
  | p :: ps, x :: xs, t => setV ps xs (t.setIfInBounds p x)
  | _, _, t => t
theorem setV_eq : ∀ (ps : List Tmp) (xs : List Value) (t : Array Value), (ps.toArray.zip xs.toArray).foldl (fun t (p, v) => t.setIfInBounds p v) t = setV ps xs t := by
  intro ps xs t
  rw [List.zip_toArray, List.foldl_toArray]
  induction ps generalizing xs t with
  | nil => cases xs <;> rfl
  | cons p ps ih =>
    cases xs with
    | nil => rfl
    | cons x xs => exact ih xs _
theorem setV_size : ∀ (ps : List Tmp) (xs : List Value) (t : Array Value), (setV ps xs t).size = t.size
  | [], _, t => by simp [setV]
  | _ :: _, [], t => by simp [setV]
  | p :: ps, x :: xs, t => by rw [setV, setV_size ps xs]; simp
theorem SlOk.set : ∀ (ps : List Tmp) (xs : List SV) {tmps : Array Value} {sl : List (Nat × SV)}, SlOk β tmps sl → (ps.all fun p => Nat.blt p tmps.size) = true → SlOk β (setV ps (denL β xs) tmps) (setS ps xs sl)
  | [], xs, tmps, sl, h, _ => by simpa [setV, setS] using h
  | _ :: _, [], tmps, sl, h, _ => by simpa [setV, setS, denL] using h
  | p :: ps, x :: xs, tmps, sl, h, hp => by
    simp only [List.all_cons, Bool.and_eq_true] at hp
    simp only [denL, setV, setS]
    refine SlOk.set (tmps := tmps.setIfInBounds p (x.den β)) ps xs (fun t y ht => ?_) (by simpa using hp.2)
    rw [getL_cons] at ht
    split at ht
    · rename_i e
      subst e
      injection ht with ht
      subst ht
      have h0 : p < tmps.size := Nat.le_of_ble_eq_true hp.1
      rw [Array.getElem?_setIfInBounds_self_of_lt h0]
    · rename_i e
      rw [Array.getElem?_setIfInBounds_ne e]
      exact h t y ht
def rndB (args : List SV) (pre : List (Nat × Chunk)) (_sl : List (Nat × SV)) (fx : List Nat) : Bool :=
  args.all (fun x => x.ids.all (inB' pre)) && pre.all (fun p => p.2.ids.all (inB' pre)) && fx.all (inB' ((999, .dead) :: pre)) && !inB' pre 999 && fx.contains 999

theorem setS_mem : ∀ (ps : List Tmp) (xs : List SV) (sl : List (Nat × SV)) {t : Nat} {x : SV}, getL (setS ps xs sl) t = some x → x ∈ xs ∨ getL sl t = some x
  | [], _, sl, t, x, h => .inr (by simpa [setS] using h)
  | _ :: _, [], sl, t, x, h => .inr (by simpa [setS] using h)
  | p :: ps, y :: ys, sl, t, x, h => by
    simp only [setS] at h
    rcases setS_mem ps ys _ h with h1 | h1
    · exact .inl (List.mem_cons_of_mem _ h1)
    · rw [getL_cons] at h1
      split at h1
      · injection h1 with h1
        subst h1
        exact .inl (List.mem_cons_self ..)
      · exact .inr h1
/-- One round, from its body's walk. -/
theorem YSpec.mk {q : Nat} {I : LpI} {sl : List (Nat × SV)} {args : List SV} {J post : List (Nat × Chunk)} {res : SV} (fx : List Nat) (hn : I.nt = nt) (hps : Nat.beq args.length I.ps.size = true) (hpb : (I.ps.toList.all fun p => Nat.blt p nt) = true) (hck : rndB args ((q, .lp I sl .ready none) :: J) sl fx = true) (hqf : fx.contains q = true)
    (hA : TL P nt fx [.code I.assign] ⟨setS I.ps.toList args sl, (999, .dead) :: (q, .lp I sl .ready none) :: J⟩ (asK P nt fx q I sl (rndK fx q I sl ((q, .lp I sl .ready none) :: J) post res))) : YSpec P q args ((q, .lp I sl .ready none) :: J) res post := by
  intro β w hok
  have hq0 : getL ((q, Chunk.lp I sl .ready none) :: J) q = some (.lp I sl .ready none) := by simp [getL_cons]
  obtain ⟨fn, tmps, D, ⟨hh, hsz, hsl⟩, hmine⟩ := hok.1 q _ hq0
  simp only [rndB, Bool.and_eq_true] at hck
  obtain ⟨⟨⟨⟨k1, k2⟩, k3⟩, k4⟩, k5⟩ := hck
  have hps' := Nat.eq_of_beq_eq_true hps
  have h9 : fx.contains 999 = true := k5
  generalize hpre : (q, Chunk.lp I sl .ready none) :: J = pre at *
  refine ⟨fn, _, I.assign, I.body, run_yield hh (by simp [denL_len, hps']), roundIn_of_wpIn trivial ?_⟩
  dsimp only
  have hset : ((I.ps.zip (denL β args).toArray).foldl (fun t (p, v) => t.setIfInBounds p v) tmps) = setV I.ps.toList (denL β args) tmps := by
    have := setV_eq I.ps.toList (denL β args) tmps
    simpa using this
  rw [hset]
  let F : Fm := ⟨w, wrS β pre, fx, β, some (β q).B, fun h => by rw [h9] at h; cases h⟩
  have n9 : getL pre 999 = none := by
    simp only [inB', Bool.not_eq_true'] at k4
    cases h : getL pre 999 with
    | none => rfl
    | some c => rw [h] at k4; cases k4
  have inl : ∀ {i}, (getL pre i).isSome = true → (getL ((999, Chunk.dead) :: pre) i).isSome = true := fun h => isSome_app (m := [(999, Chunk.dead)]) h
  have hsat : SatB F nt β ⟨setS I.ps.toList args sl, (999, .dead) :: pre⟩ { tmps := setV I.ps.toList (denL β args) tmps, defers := [] } w := by
    refine ⟨⟨⟨by simp, by simp⟩, fun i hi => ⟨List.all_eq_true.1 k3 i hi, rfl⟩⟩, ?_, hsl.set I.ps.toList args (by rw [hsz, hn]; exact hpb), ⟨fun i c hi => ?_, fun i j ci cj hne hi hj g hw hb => ?_⟩, ⟨?_, ?_⟩, Fr.refl _ _⟩
    · rw [setV_size, hsz, hn]
    · dsimp only at hi
      rw [getL_cons] at hi
      split at hi
      · injection hi with hi
        subst hi
        trivial
      · exact (hok.1 i c hi).frame (fun g hg => .inr ⟨i, c, hi, hg⟩)
    · dsimp only at hi hj
      rw [getL_cons] at hi hj
      split at hi
      · injection hi with hi
        subst hi
        exact hw.elim
      · split at hj
        · injection hj with hj
          subst hj
          exact hb.elim
        · exact hok.2 i j ci cj hne hi hj g hw hb
    · intro t x ht i hi
      rcases setS_mem _ _ _ ht with h1 | h1
      · exact inl (List.all_eq_true.1 (List.all_eq_true.1 k1 x h1) i hi)
      · exact inl (List.all_eq_true.1 (List.all_eq_true.1 k2 (q, Chunk.lp I sl .ready none) (getL_mem hq0)) i (getL_idsSl h1 i hi))
    · intro i c hi j hj
      dsimp only at hi
      rw [getL_cons] at hi
      split at hi
      · injection hi with hi
        subst hi
        simp [Chunk.ids] at hj
      · exact inl (List.all_eq_true.1 (List.all_eq_true.1 k2 _ (getL_mem hi)) j hj)
  have h1 := hA.run F _ w rfl ⟨β, hsat⟩
  simp only [wpIt] at h1
  refine Code.wpIn_mono (fun e a1 w1 h2 => ?_) (show I.assign.wpIn (Fence.wide.inRound (β q).B) 0 P _ _ w from h1)
  obtain ⟨s1, hk, β1, hs1⟩ := h2
  have hqf' : q ∈ fx := by simpa using hqf
  cases e with
  | normal =>
    obtain ⟨hq, hB⟩ := hk
    have hb1 : β1 q = β q := (hs1.1.2 q hqf').2
    obtain ⟨fn1, tmps1, D1, ⟨e1, e2, e3⟩, _⟩ := hs1.2.2.2.1.1 q _ hq
    rw [hb1] at e1
    refine ⟨_, run_beginRound e1 rfl, ?_⟩
    have hs2 := hs1.turn (st' := .busy) (pe' := none) hq (by rw [hb1]; exact e1) e2 e3
    rw [hb1] at hs2
    have h3 := hB.run F _ _ rfl ⟨β1, hs2⟩
    simp only [wpIt] at h3
    refine Code.wpIn_mono (fun e a2 w2 h4 => ?_) (show I.body.wpIn (Fence.wide.inRound (β q).B) 0 P _ _ _ from h3)
    obtain ⟨s2, hk2, β2, hs3⟩ := h4
    have hb2 : β2 q = β q := (hs3.1.2 q hqf').2
    have fin : ∀ st pe b ρ, RnOk fx q I sl pre post res st pe b ρ s2 → (st = if pe.isNone then .ready else .done) → b = pe.isNone → ∃ v w', (Instr.endRound (β q).B pe).run P w2 = .ok v w' ∧ ∃ β', (∀ i, (getL pre i).isSome = true → β' i = β i) ∧ Ending.returned v = .returned (res.den β') ∧ HOk (spF β pre w) β' post w' ∧ Fr (wrS β pre) w w' := by
      rintro st pe b ρ ⟨r1, r2, r3, r4⟩ hst hb
      obtain ⟨fn2, tmps2, D2, ⟨e1, e2, e3⟩, _⟩ := hs3.2.2.2.1.1 q _ r1
      have hs4 := hs3.turn (st' := st) (pe' := pe) r1 e1 e2 e3
      rw [hb2] at e1
      rw [hb2] at hs4
      simp only [Bool.and_eq_true] at r4
      obtain ⟨⟨c1, c2⟩, c3⟩ := r4
      obtain ⟨β', m1, m2, m3, m4⟩ := ret_core (F := F) rfl rfl rfl rfl hs4 r3 c1 c2 c3
      have h5 := run_endRound (P := P) pe e1
      dsimp only at h5
      rw [← hst] at h5
      refine ⟨_, _, h5, β', m1, ?_, m3, m4⟩
      rw [← m2, r2, hb]
      rfl
    cases e with
    | normal => obtain ⟨ρ, h⟩ := hk2; exact fin _ _ _ ρ h rfl rfl
    | ret => obtain ⟨ρ, h⟩ := hk2; exact fin _ _ _ ρ h rfl rfl
    | exit id => obtain ⟨ρ, h⟩ := hk2; exact fin _ _ _ ρ h rfl rfl
    | goto l => exact hk2.elim
    | panic ch => exact hk2.elim
    | outgrown => exact hk2.elim
  | exit id => exact hk.elim
  | goto l => exact hk.elim
  | ret => exact hk.elim
  | panic ch => exact hk.elim
  | outgrown => exact hk.elim

/-! ### The call of yield -/
theorem callY_gen {sl : List (Nat × SV)} {hp : List (Nat × Chunk)} {d : Option Nat} {ty : TypeId} {pos : String} {af : Array Edge} {g : Option (Nat × Bool)} {fo : Operand} {q : Nat} {xs : List Operand} {ats : Array TypeId} {Xs args : List SV} {pre post hin H : List (Nat × Chunk)} {res R : SV}
    (hspec : YSpec P q args pre res post) (σ : Nat → Nat) (hfo : evS sl fo = some (.yl (σ q))) (hxs : evL sl xs = some Xs) (hargs : renL σ args = Xs) (hR : res.ren σ = R) (hH : renH σ post = H)
    (hm : Match σ hp pre hin) (hck : callB σ pre post res = true) (hfr : (newIds pre post).all (fun i => (getL hp (σ i)).isNone) = true) (ht : dstB nt d = true) :
    OpR P nt ⟨sl, hp⟩ ⟨d, .call { callee := .value fo, args := xs.toArray, argTypes := ats }, ty, pos, af, g⟩ ⟨insOf fo (.yl (σ q)) ++ insL xs Xs, hin, (newIds pre post).map σ, d, R, H⟩ ⟨putD d R sl, H ++ hp⟩ := by
  subst hR
  subst hH
  refine ⟨⟨rfl, fun F s a w hs hpre => ?_⟩, ⟨?_, hm.pre_, ?_⟩, ?_⟩
  · obtain ⟨β, hs⟩ := hs
    obtain ⟨p1, p2, p3⟩ := hpre
    have q' : ∀ p ∈ insOf fo (.yl (σ q)) ++ insL xs Xs, a.tmps[p.1]? = some (p.2.den β) := fun p hp => hs.2.2.1 _ _ (p1 p hp)
    have ef := eval_of (evC_of hfo) (fun p hp' => q' p (List.mem_append_left _ hp'))
    have ex := insL_eval hxs (fun p hp' => q' p (List.mem_append_right _ hp'))
    have fresh : ∀ i ∈ newIds pre post, getL s.hp (σ i) = none := fun i hi => p3 _ (List.mem_map.2 ⟨i, hi, rfl⟩)
    have look : ∀ {i c}, getL pre i = some c → ∃ c', getL s.hp (σ i) = some c' ∧ ChLe c' (c.ren σ) := fun hi => by
      obtain ⟨c', h1, h2⟩ := hm.at_ hi
      exact ⟨c', p2 _ h1, h2⟩
    obtain ⟨fn, tmps, assign, body, hy, hround⟩ := call_core (C := YC P q args) YC.mono hspec σ hs look hck fresh
    have hargs' : xs.toArray.map a.eval = (denL (fun i => β (σ i)) args).toArray := by
      rw [← denL_ren β σ args, hargs, ← ex]
      simp
    have hrun : (execOp a.eval ⟨d, .call { callee := .value fo, args := xs.toArray, argTypes := ats }, ty, pos, af, g⟩).run P w = .ok (.round (β (σ q)).B fn tmps assign body) w := by
      simp only [execOp, resolve, ef, SV.den, Deferred.ofValue, Sem.run_bind, Sem.run_pure, Result.andThen_ok, invoke, Array.empty_append]
      rw [hargs']
      exact hy
    refine ⟨about_wide, ?_⟩
    rw [show (fR F.rd).round = F.rd from rfl, semAt_run (by simp) hrun]
    refine ⟨fun h => (by simp [fR] at h), RoundIn.mono (show RoundIn (fR F.rd) 0 P _ fn tmps assign body w _ from hround) ?_⟩
    rintro e w' ⟨β2, _, rfl, hmv, hids⟩
    dsimp only
    cases d with
    | none => exact ⟨β2, hmv⟩
    | some t => exact ⟨β2, hmv.put (t := t) (x := res.ren σ) (by simp [dstB, Nat.blt] at ht; omega) hids⟩
  · intro p hp'
    rcases List.mem_append.1 hp' with h1 | h1
    · exact insOf_pre (s := ⟨sl, hp⟩) hfo p h1
    · exact insL_pre (s := ⟨sl, hp⟩) hxs p h1
  · intro i hi
    obtain ⟨k, hk, rfl⟩ := List.mem_map.1 hi
    have := List.all_eq_true.1 hfr k hk
    simpa using this
  · cases d <;> rfl
theorem OpR.callY {sl : List (Nat × SV)} {hp : List (Nat × Chunk)} {t q : Nat} {ty : TypeId} {pos : String} {af : Array Edge} {g : Option (Nat × Bool)} {fo : Operand} {xs : List Operand} {ats : Array TypeId} {Xs args : List SV} {pre post : List (Nat × Chunk)} {u : Value}
    (hspec : YSpec P q args pre (.v u) post) (σ : Nat → Nat) (hm : LeH σ hp pre) (H : List (Nat × Chunk)) (hfo : evS sl fo = some (.yl (σ q)) := by rfl) (hxs : evL sl xs = some Xs := by rfl) (hargs : renL σ args = Xs := by rfl) (hH : renH σ post = H := by rfl)
    (hck : callB σ pre post (.v u) = true := by kernel_rfl) (hfr : (newIds pre post).all (fun i => (getL hp (σ i)).isNone) = true := by kernel_rfl) (ht : Nat.blt t nt = true := by rfl) :
    OpR P nt ⟨sl, hp⟩ ⟨some t, .call { callee := .value fo, args := xs.toArray, argTypes := ats }, ty, pos, af, g⟩ ⟨insOf fo (.yl (σ q)) ++ insL xs Xs, hinOf σ hp pre, (newIds pre post).map σ, some t, .v u, H⟩ ⟨(t, .v u) :: sl, H ++ hp⟩ :=
  callY_gen hspec σ hfo hxs hargs rfl hH hm.match_ hck hfr ht

/-! ### The loop -/
def jumpI : Option Code → List It → List It
  | none, k => k
  | some c, k => .code c :: k
/-- A range over a function, its function's Spec at hand. -/
theorem TL.rangeF {g : Operand} {ps : Array Tmp} {assign body : Code} {k : List It} {K : Exit → St → Prop} {q : Nat} {f : FuncId} {caps args : List SV} {pre post : List (Nat × Chunk)} {res : SV} (sl' : List (Nat × SV)) (hspec : Spec P f args pre res post) (σ : Nat → Nat) (H : List (Nat × Chunk)) {st : LoopState} {pe : Option Code}
    (hm : LeH σ ((q, .lp ⟨nt, ps, assign, body⟩ sl' .ready none) :: s.hp) pre)
    (hk : TL P nt fx (jumpI pe k) ⟨s.sl, (q, .dead) :: (H ++ (q, .lp ⟨nt, ps, assign, body⟩ sl' .ready none) :: s.hp)⟩ K)
    (hsl : LeS (fun i => i) s.sl sl') (hfx : fx.contains 999 = false) (hq : getL s.hp q = none) (hid : ((idsSl sl').all (inB' s.hp)) = true)
    (hg : evS s.sl g = some (.fn f caps)) (hargs : renL σ args = .yl q :: caps)
    (hck : callB σ pre post res = true) (hfr : (newIds pre post).all (fun i => (getL ((q, Chunk.lp ⟨nt, ps, assign, body⟩ sl' .ready none) :: s.hp) (σ i)).isNone) = true)
    (hH : renH σ post = H) (hrec : getL (H ++ (q, .lp ⟨nt, ps, assign, body⟩ sl' .ready none) :: s.hp) q = some (.lp ⟨nt, ps, assign, body⟩ sl' st pe)) (hst : st ≠ .busy) :
    TL P nt fx (.code (.rangeFunc g ps assign body) :: k) s K := .mk fun F a w hf hs => by
  have hrd : F.rd = none := F.hrd (by rw [hf]; exact hfx)
  simp only [wpIt]
  have key : (Code.rangeFunc g ps assign body).wpIn (fR none) 0 P (wpIt F.rd P k fun e a' w' => ∃ s', K e s' ∧ Sat F nt s' a' w') a w := by
    obtain ⟨β, hs⟩ := hs
    refine wpIn_rangeFunc ?_
    intro fn _
    have eg : a.eval g = (SV.fn f caps).den β := eval_of (evC_of hg) (fun p hp => hs.2.2.1 _ _ (insOf_pre hg p hp))
    have hc : ∀ i ∈ idsL caps, (getL s.hp i).isSome = true := fun i hi => ids_of hs.2.2.2.2.1 (evC_of hg) (insOf_pre hg) i hi
    have hslo : SlOk β a.tmps sl' := fun t x ht => by
      have := hs.2.2.1 t _ (hsl.at_ ht)
      rw [this, SV.den_ren]
    let c : Chunk := .lp ⟨nt, ps, assign, body⟩ sl' .ready none
    let b : BI := ⟨false, w.heap.size + 1, 0, 0, none, []⟩
    let o : Loop := ⟨.ready, none, fn, a.tmps, ps, assign, body, w.heap.size⟩
    let W1 := (w.alloc (.deferred (some []))).alloc (.loop o)
    have hL1 : W1.heap[w.heap.size + 1]? = some (.loop o) := by
      have := World.alloc_heap_new (w.alloc (.deferred (some []))) (.loop o)
      rwa [World.size_alloc] at this
    have hK1 : W1.heap[w.heap.size]? = some (.deferred (some [])) := (Below.heap_alloc _ _ _ (by simp)).trans (World.alloc_heap_new w _)
    have hfr1 : Fr (fun _ => False) w W1 := (fr_alloc w _).alloc _
    have hslo2 : SlOk (upd β q b) a.tmps sl' := hslo.congr (fun i hi => upd_old hq i (List.all_eq_true.1 hid i hi))
    have hs1 : SatB F nt (upd β q b) ⟨s.sl, (q, c) :: s.hp⟩ a W1 := hs.new q c b hq hfr1
      ⟨fn, a.tmps, w.heap.size, ⟨by rw [upd_same]; exact hL1, hs.2.1, hslo2⟩, by rw [upd_same]; exact .inl (Nat.le_trans hs.2.2.2.2.2.size (Nat.le_succ _))⟩
      (fun g hg => by rw [show g = (upd β q b q).B from hg, upd_same]; exact Nat.le_succ _) (fun j hj => List.all_eq_true.1 hid j hj)
    have hs2 : SatB F nt (upd β q b) ⟨s.sl, (q, c) :: s.hp⟩ { a with defers := [⟨.collected w.heap.size, #[]⟩] ++ a.defers } W1 := by
      refine hs1.defers ⟨fun d hd => ?_, ?_⟩
      · rcases List.mem_append.1 hd with h | h
        · simp at h
          exact ⟨_, h, hs.2.2.2.2.2.size, hK1⟩
        · exact hs1.1.1.1 d h
      · refine List.nodup_cons.2 ⟨fun h => ?_, hs.1.1.2⟩
        obtain ⟨D, e1, _, e2⟩ := hs.1.1.1 _ h
        injection e1 with e1
        injection e1 with e1
        subst e1
        have := (Array.getElem?_eq_some_iff.1 e2).1
        omega
    have hcore := call_core (C := fun β w R => Calls P f (denL β args).toArray w R) (fun β w R R' h hr => Calls.mono h hr) hspec.2 σ hs2 (fun hi => hm.at_ hi) hck (fun i hi => by
      have := List.all_eq_true.1 hfr i hi
      simpa using this)
    have hargs' : (#[Value.func (.yield (w.heap.size + 1)) #[] #[]] ++ (denL β caps).toArray) = (denL (fun i => upd β q b (σ i)) args).toArray := by
      rw [← denL_ren (upd β q b) σ args, hargs, denL, upd_denL hq hc, SV.den, upd_same]
      simp [b]
    refine ⟨w.heap.size + 1, [⟨.collected w.heap.size, #[]⟩], W1, { target := .fn (.func f) (denL β caps).toArray, args := #[.func (.yield (w.heap.size + 1)) #[] #[]] }, W1, f, #[.func (.yield (w.heap.size + 1)) #[] #[]] ++ (denL β caps).toArray, W1,
      run_enterLoop_outer _ _ _ _ _, ?_, fun _ _ => trivial, ?_, fun h => (by simp [fR] at h), ?_⟩
    · simp only [resolve, eg]
      simp [go_sem, SV.den, Deferred.ofValue]
    · simp only [invoke]
      exact hspec.1 _ _
    · rw [hargs']
      refine (callsIn_rd none _ hcore).mono ?_
      rintro e w3 ⟨β2, hb2, rfl, hmv, _⟩
      rw [hH] at hmv
      have hbq : β2 q = b := by rw [← hb2 q (by simp [getL_cons]), upd_same]
      obtain ⟨fn3, tmps3, D3, ⟨e1, _, _⟩, _⟩ := hmv.2.2.2.1.1 q _ hrec
      rw [hbq] at e1
      have h5 := run_endLoop (P := P) e1 hst
      have hs6 := hmv.shut hrec (.loop { state := .exhausted, pending := pe, fn := fn3, tmps := tmps3, params := ps, assign := assign, body := body, defers := D3 })
      rw [hbq] at hs6
      refine ⟨pe, _, h5, ?_⟩
      have h7 := hk.run F _ _ hf ⟨β2, hs6⟩
      cases pe with
      | none => exact h7
      | some c =>
        simp only [jumpI, wpIt] at h7
        rw [hrd] at h7 ⊢
        exact h7
  rw [hrd] at key ⊢
  exact key
theorem asK.normal {q : Nat} {I : LpI} {sl : List (Nat × SV)} {K : Exit → St → Prop} (h : TL P nt fx [.code I.body] ⟨s.sl, (q, .lp I sl .busy none) :: s.hp⟩ K) (hq : getL s.hp q = some (.lp I sl .ready none) := by rfl) : asK P nt fx q I sl K .normal s := ⟨hq, h⟩
section
variable {q : Nat} {I : LpI} {sl : List (Nat × SV)} {pre post : List (Nat × Chunk)}
theorem rndK.normal (ρ : Nat → Nat) (h : LeH ρ ((q, .lp I sl .ready none) :: s.hp) post) (hq : getL s.hp q = some (.lp I sl .busy none) := by rfl) (ck : (nodupB (post.map fun p => ρ p.1) && fxB fx ρ ((q, .lp I sl .ready none) :: s.hp) && retB fx pre post (.v (.bool true))) = true := by kernel_rfl) : rndK fx q I sl pre post (.v (.bool true)) .normal s := ⟨ρ, hq, rfl, h, ck⟩
theorem rndK.ret (ρ : Nat → Nat) (h : LeH ρ ((q, .lp I sl .done (some .ret)) :: s.hp) post) (hq : getL s.hp q = some (.lp I sl .busy none) := by rfl) (ck : (nodupB (post.map fun p => ρ p.1) && fxB fx ρ ((q, .lp I sl .done (some .ret)) :: s.hp) && retB fx pre post (.v (.bool false))) = true := by kernel_rfl) : rndK fx q I sl pre post (.v (.bool false)) .ret s := ⟨ρ, hq, rfl, h, ck⟩
theorem rndK.exit {id : Nat} (ρ : Nat → Nat) (h : LeH ρ ((q, .lp I sl .done (some (.exit id))) :: s.hp) post) (hq : getL s.hp q = some (.lp I sl .busy none) := by rfl) (ck : (nodupB (post.map fun p => ρ p.1) && fxB fx ρ ((q, .lp I sl .done (some (.exit id))) :: s.hp) && retB fx pre post (.v (.bool false))) = true := by kernel_rfl) : rndK fx q I sl pre post (.v (.bool false)) (.exit id) s := ⟨ρ, hq, rfl, h, ck⟩
end
end
set_option allowUnsafeReducibility true in
attribute [irreducible] rndK asK
end Go.Proofs.Ytiboffhdabeiiaa

/-
  The symbolic state: the builtin copy onto a row of one's own. Plain lemmas over any program.
-/
namespace Go.Proofs.Ytiboffhdabeiiaa
open Go Go.RowKit
def copyL {α : Type} (l l2 : List α) : List α := l2.take l.length ++ l.drop l2.length
theorem copyL_len {α : Type} (l l2 : List α) : (copyL l l2).length = l.length := by simp [copyL]; omega
section
variable {P : Program} {nt : Nat} {sl : List (Nat × SV)} {hp : List (Nat × Chunk)} {t : Nat}
variable {ty : TypeId} {pos : String} {af : Array Edge} {g : Option (Nat × Bool)}
theorem flat_copy {α : Type} (E : Enc α) (l l2 : List α) : flat E (copyL l l2) = flat E (l2.take l.length) ++ (flat E l).drop (flat E (l2.take l.length)).length := by
  unfold copyL
  rw [flat_append]
  congr 1
  have h0 : flat E l = flat E (l.take (l2.take l.length).length) ++ flat E (l.drop (l2.take l.length).length) := by rw [← flat_append, List.take_append_drop]
  have h1 : (flat E (l.take (l2.take l.length).length)).length = (flat E (l2.take l.length)).length := by
    rw [flat_len, flat_len]
    congr 1
    simp
  rw [h0, ← h1, List.drop_left]
  by_cases h : l2.length ≤ l.length
  · rw [List.take_of_length_le h]
  · rw [List.drop_eq_nil_of_le (by omega), List.drop_eq_nil_of_le (by simp; omega)]
theorem OpR.copy {T S : TypeId} {x y : Operand} {i j n m e sz : Nat} {α : Type} {E : Enc α} {l l2 : List α} {cj : Chunk} [hT : TySlice P T e sz] (hx : evS sl x = some (.a i n)) (hy : evS sl y = some (.a j m)) (hci : getL hp i = some (.own e E l)) (hcj : getL hp j = some cj) [hr : RowC cj E l2] (hs : E.size = sz) (hn : l.length = n) (hm : l2.length = m) (hpos : 0 < l.length) (ht : Nat.blt t nt = true) :
    OpR P nt ⟨sl, hp⟩ ⟨some t, .call { callee := .builtin .copy, args := #[x, y], argTypes := #[T, S] }, ty, pos, af, g⟩ ⟨insOf x (.a i n) ++ insOf y (.a j m), [(i, .own e E l), (j, cj)], [], some t, .v (.int .i64 ((Nat.min m n : Nat) : Int)), [(i, .own e E (copyL l l2))]⟩ ⟨(t, .v (.int .i64 ((Nat.min m n : Nat) : Int))) :: sl, (i, .own e E (copyL l l2)) :: hp⟩ := by
  refine ⟨⟨rfl, fun F s a w hs' hpre => ?_⟩, ⟨?_, ?_, by simp⟩, rfl⟩
  · obtain ⟨β, hs'⟩ := hs'
    obtain ⟨p1, p2, _⟩ := hpre
    have c1 := p2 (i, .own e E l) (by simp)
    have c2 := p2 (j, cj) (by simp)
    have q : ∀ p ∈ insOf x (.a i n) ++ insOf y (.a j m), a.tmps[p.1]? = some (p.2.den β) := fun p hp => hs'.2.2.1 _ _ (p1 p hp)
    have ex := eval_of (evC_of hx) (fun p hp' => q p (List.mem_append_left _ hp'))
    have ey := eval_of (evC_of hy) (fun p hp' => q p (List.mem_append_right _ hp'))
    obtain ⟨hown, hO, hmn⟩ := hs'.2.2.2.1.1 i _ c1
    have hrd := hr.read (hs'.2.2.2.1.1 j _ c2)
    subst hs
    subst hn
    subst hm
    have hpos' : 0 < (flat E l).length := by rw [flat_len]; exact Nat.mul_pos hpos E.pos
    obtain ⟨hnil, hcell⟩ := own_read hown hO hpos'
    rcases hown.2 with hn0 | ⟨q, cap, cur, hv0, hb0, hh, hnc, hcm, hcsz, htk⟩
    · have := hown.1
      rw [hn0.2] at this
      omega
    unfold BI.ad at hv0
    rw [hnil] at hv0
    simp at hv0
    obtain ⟨⟨hq, _⟩, hcap⟩ := hv0
    have hcurl : (flat E l).length ≤ cur.size := by
      rw [← htk]
      simp
      omega
    obtain ⟨vs, hvs⟩ : ∃ vs, flat E (l2.take l.length) = vs := ⟨_, rfl⟩
    have hvl : vs.length = Nat.min l2.length l.length * E.size := by rw [← hvs, flat_len, List.length_take, Nat.min_comm]
    have hvle : vs.length ≤ (flat E l).length := by rw [hvl, flat_len]; exact Nat.mul_le_mul_right _ (Nat.min_le_right ..)
    have one : ∀ u ∈ vs, u.oneCell' = true := by rw [← hvs]; exact flat_one E _
    have hload : (Builtin.firstCells E.size (Nat.min l2.length l.length) (.slice (β j).dn l2.length (β j).cap)).run P w = .ok vs.toArray w := by
      by_cases h0 : l2 = []
      · subst h0
        have : vs = [] := List.length_eq_zero_iff.1 (by rw [hvl]; simp)
        subst this
        cases (β j).dn <;> simp [Builtin.firstCells, loadCells, loadCellsFrom]
      · obtain ⟨⟨hnj, _⟩, hcj'⟩ := hrd h0
        have hdn : (β j).dn = some ⟨(β j).B, (β j).O, none⟩ := by unfold BI.dn; rw [hnj]; rfl
        have h7 := run_loadCells_list (P := P) (w := w) ⟨(β j).B, (β j).O, none⟩ vs (fun r v hv => by
          rw [add_lit]
          refine hcj' r v ?_
          have hsp : flat E l2 = vs ++ flat E (l2.drop l.length) := by rw [← hvs, ← flat_append, List.take_append_drop]
          rw [hsp, List.getElem?_append_left (List.getElem?_eq_some_iff.1 hv).1]
          exact hv)
        rw [hvl] at h7
        rw [hdn]
        exact h7
    have hcs : ∀ r, r < (flat E l).length → (w.cell? ⟨(β i).B, 0 + r, none⟩).isSome = true := fun r hr => by
      have := hcell r _ (List.getElem?_eq_getElem hr)
      rw [hO] at this
      rw [this]
      rfl
    have hstore := run_storeCells_cells (P := P) (β i).B 0 vs 0 w (fun r hr => by simpa using hcs r (by omega)) (fun r hr => by rw [hq]; simp [World.frozen?, hh]) one
    obtain ⟨cur', h5, h6⟩ := setCells_block (β i).B e vs 0 w cur (by rw [hq]; exact hh) (by omega)
    have hdi : (β i).dn = some ⟨(β i).B, 0, none⟩ := by unfold BI.dn; rw [hnil, hO]; rfl
    refine Oper.wp_ok (v := .int .i64 ((Nat.min l2.length l.length : Nat) : Int)) (w' := w.setCells (β i).B 0 vs) ?_ ?_
    · simp only [execOp, resolve, invoke, builtin, Array.map]
      simp [ex, ey, SV.den, hdi, Builtin.copy_, run_underlying hT.h, Builtin.lenOf, run_sizeOf' hT.hn, hload]
      simp at hstore
      simp [hstore, goInt]
    · have hnew := hs'.rewrite i _ (.own e E (copyL l l2)) c1 ((setCells_fr _ _ _ _).mono (fun k _ h => ⟨hnil, h⟩)) (by
        refine ⟨⟨by rw [flat_len], .inr ⟨q, cap, cur', ?_, hb0, by rw [← hq]; exact h5, by rw [copyL_len]; exact hnc, hcm, ?_, ?_⟩⟩, hO, hmn⟩
        · unfold BI.ad
          rw [hnil, hO, hq, hcap, copyL_len]
          simp
        · have := congrArg List.length h6
          simp at this
          omega
        · rw [h6, flat_copy, hvs]
          simp only [List.take_zero, List.nil_append, Nat.zero_add]
          rw [copyL_len]
          have hL := flat_len E l
          have hv2 : vs.length ≤ l.length * E.size := by rw [← flat_len]; exact hvle
          have hcz : l.length * E.size ≤ cur.size := by omega
          generalize l.length * E.size = M at *
          rw [← htk, List.take_append, List.take_of_length_le (l := vs) hv2]
          rw [List.take_drop]
          rw [show vs.length + (M - vs.length) = M by omega]) (fun g h => h) (fun g h => h) (fun k hk => by simp [Chunk.ids] at hk)
      exact ⟨β, hnew.put (by simp [Nat.blt] at ht; omega) (by simp [SV.ids])⟩
  · intro p hp'
    rcases List.mem_append.1 hp' with h1 | h1
    · exact insOf_pre (s := ⟨sl, hp⟩) hx p h1
    · exact insOf_pre (s := ⟨sl, hp⟩) hy p h1
  · intro p hp'
    simp only [List.mem_cons, List.not_mem_nil, or_false] at hp'
    rcases hp' with rfl | rfl
    · exact hci
    · exact hcj
end
end Go.Proofs.Ytiboffhdabeiiaa
