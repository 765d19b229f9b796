/-
  The symbolic state: make, append, pieces of rows. Plain lemmas over any program.
-/
import Derived.Test.YtiboffhdabeiiaaSxF
import Derived.Lib.SliceRun
import Derived.WalkSpells
namespace Go.Proofs.Ytiboffhdabeiiaa
open Go Go.RowKit

theorem fr_of_grown {w w' : World} (h : w.grownBy w' none) : Fr (fun _ => False) w w' := Fr.of_grown h (fun k _ e => by cases e)

theorem own_cases {w : World} {base n size : Nat} {e : TypeId} {v : Value} {xs : List Value} (h : w.ownsRow base e size v n xs) : ∃ b : BI, v = .slice b.ad n b.cap ∧ b.O = 0 ∧ (b.nil = true → b.cap = 0 ∧ n = 0) ∧ v.ownBlock = (if b.nil then none else some b.B) ∧ b.od = none := by
  rcases h.2 with ⟨rfl, rfl⟩ | ⟨g, cap, cur, rfl, _⟩
  · exact ⟨⟨true, 0, 0, 0, none, []⟩, rfl, rfl, fun _ => ⟨rfl, rfl⟩, rfl, rfl⟩
  · exact ⟨⟨false, g, 0, cap, none, []⟩, rfl, rfl, fun h => by simp at h, rfl, rfl⟩

theorem run_append_nilsrc {P : Program} {w : World} (base : Nat) (t ty e : TypeId) (i : TypeInfo) (size : Nat) (ht : P.underlying t = some (.slice e)) (hi : P.info? e = some i)
    (v : Value) (n : Nat) (xs : List Value) (hown : w.ownsRow base e size v n xs) (ao : Option Addr) (c : Nat) : (Builtin.append_ #[t, t] ty #[v, .slice ao 0 c]).run P w = .ok v w := by
  rcases hown.2 with ⟨rfl, rfl⟩ | ⟨g, cap, cur, rfl, _, _, hnc, _⟩
  · cases ao <;> simp [loadCells, loadCellsFrom, storeCells, Builtin.append_, run_underlying ht, sizeOf, typeInfo, hi, Builtin.lenOf, Builtin.firstCells]
  · cases ao <;> simp [loadCells, loadCellsFrom, Builtin.append_, run_underlying ht, sizeOf, typeInfo, hi, Builtin.lenOf, Builtin.firstCells, hnc, storeCells]

/-- An append to a row of one's own, of any row that reads. -/
theorem run_append_row {P : Program} {w : World} {base : Nat} {T ty e sz : TypeId} {α : Type} {E : Enc α} {bytes : Nat} (hT : TySlice P T e sz) (hE : TyElem P e E bytes) {v : Value} {n : Nat} {l l2 : List α} (hown : w.ownsRow base e E.size v n (flat E l))
    {β : Nat → BI} {j : Nat} (hrd : RdOk β j w E l2) (hnil : (β j).nil = true → l2 = []) (h63 : n + l2.length ≤ 1099511627776) (hby : bytes ≤ 64) (hbase : base ≤ w.heap.size) :
    ∃ v' w', (Builtin.append_ #[T, T] ty #[v, .slice (β j).dn l2.length (β j).cap]).run P w = .ok v' w' ∧ w'.ownsRow base e E.size v' (n + l2.length) (flat E (l ++ l2)) ∧ w.grownBy w' v.ownBlock ∧
      (v'.ownBlock = v.ownBlock ∨ v'.ownBlock = some w.heap.size) := by
  obtain ⟨i, z, hi, hz, hi1, hi2, hz1, hz2⟩ := elem_info hE
  cases hn : (β j).nil
  · have had : (β j).dn = some ⟨(β j).B, (β j).O, none⟩ := by simp [BI.dn, hn]
    rw [had]
    have hnews : ∀ q u, (flat E l2)[q]? = some u → w.cell? ((⟨(β j).B, (β j).O, none⟩ : Addr).add q) = some u := by
      intro q u hu
      have hl : l2 ≠ [] := by rintro rfl; simp [flat] at hu
      rw [add_lit]
      exact (hrd hl).2 q u hu
    have hmul : (n + l2.length) * bytes ≤ 1099511627776 * 64 := Nat.mul_le_mul h63 hby
    obtain ⟨v', w', h1, h2, h3, _, h5⟩ := run_append_own_at (P := P) w base T ty e i z E.size bytes hT.h hi hz hi1 hi2 hz2 E.pos v n (flat E l) hown _ l2.length (β j).cap (flat E l2) (flat_len E l2) hnews (flat_one E l2) (by simp only [maxLen]; omega) (by omega) hbase
    refine ⟨v', w', h1, ?_, h3, h5⟩
    rw [flat_append]
    exact h2
  · have hl := hnil hn
    subst hl
    refine ⟨v, w, run_append_nilsrc base T ty e i E.size hT.h hi v n _ hown _ _, ?_, World.grownBy.refl w _, .inl rfl⟩
    simpa [flat] using hown

section
variable {P : Program} {nt : Nat} {o : Oper} {sl : List (Nat × SV)} {hp : List (Nat × Chunk)} {t : Nat}
variable {ty : TypeId} {pos : String} {af : Array Edge} {g : Option (Nat × Bool)}

theorem own_ok_of {F : Fm} {β : Nat → BI} {α : Type} {e : TypeId} {E : Enc α} {l : List α} {w' : World} {b : BI} (h : w'.ownsRow 0 e E.size (.slice b.ad l.length b.cap) l.length (flat E l)) (hO : b.O = 0) (hd : b.od = none) (hm : b.nil = false → F.mine b.B) : ChOk F (upd β t b) t w' (.own e E l) := by
  refine ⟨?_, by rw [upd_same]; exact hO, by rw [upd_same]; exact hm, by rw [upd_same]; exact hd⟩
  rw [upd_same]
  exact h
theorem own_bl_of {β : Nat → BI} {α : Type} {e : TypeId} {E : Enc α} {l : List α} {b : BI} {q : Nat} (h : Bl (upd β t b) t (.own e E l) q) : b.nil = false ∧ q = b.B := by
  simpa [Bl, Wr, upd_same] using h

theorem OpR.make' {T : TypeId} {x y : Operand} {n : Nat} {kl kc : IntKind} {e sz : Nat} {α : Type} {E : Enc α} {bytes : Nat} [hT : TySlice P T e sz] [hE : TyElem P e E bytes] (hx : evS sl x = some (.v (.int kl ((n : Nat) : Int)))) (hy : evS sl y = some (.v (.int kc ((n : Nat) : Int))))
    (hn1 : n ≤ 1099511627776) (hby : Nat.ble bytes 64 = true) (ht : Nat.blt t nt = true) (hf : getL hp t = none) :
    OpR P nt ⟨sl, hp⟩ ⟨some t, .makeSlice T x y, ty, pos, af, g⟩ ⟨insOf x (.v (.int kl ((n : Nat) : Int))) ++ insOf y (.v (.int kc ((n : Nat) : Int))), [], [t], some t, .a t n, [(t, .own e E (List.replicate n E.zero))]⟩ ⟨(t, .a t n) :: sl, (t, .own e E (List.replicate n E.zero)) :: hp⟩ := by
  have hby' := Nat.le_of_ble_eq_true hby
  refine OpR.make rfl ht hf ?_ (fun i hi => by simpa [SV.ids] using hi) fun F β s a w hs hp1 hn hpre => ?_
  · intro p hp'
    rcases List.mem_append.1 hp' with h1 | h1
    · exact insOf_pre (s := ⟨sl, hp⟩) hx p h1
    · exact insOf_pre (s := ⟨sl, hp⟩) hy p h1
  · obtain ⟨i, z, hi, hz, hi1, hi2, hz1, hz2⟩ := elem_info hE
    have hmul : i.bytes * n ≤ 64 * 1099511627776 := Nat.mul_le_mul (by omega) hn1
    obtain ⟨w', h1, h2, h3⟩ := run_make_full (P := P) w 0 T e i z E.size hT.h hi hz hi1 kl kc n (by omega) (by simp only [maxLen]; omega) (Nat.zero_le _)
    rw [show (madeCells z.cells (n * E.size)).toList = flat E (List.replicate n E.zero) from made_flat E z.cells E.zero hz1 n] at h2
    refine ⟨ownBI w.heap.size n, w', ?_, fr_of_grown h3, ?_, fun q hq => by rw [newOwn_bl hq]; exact Nat.le_refl _, by simp [Chunk.ids]⟩
    · simp [execOp, eval_of (evC_of hx) (fun p hp' => hpre p (List.mem_append_left _ hp')), eval_of (evC_of hy) (fun p hp' => hpre p (List.mem_append_right _ hp')), SV.den, h1, upd_same, ownBI, BI.dn]
    · refine newOwn_ok ?_ (.inl hs.2.2.2.2.2.size)
      simpa using h2

/-- Whether a row is nil only if it is empty: rows of one's own are. -/
theorem own_nil {F : Fm} {β : Nat → BI} {id : Nat} {w : World} {α : Type} {e : TypeId} {E : Enc α} {l : List α} (h : ChOk F β id w (.own e E l)) (hn : (β id).nil = true) : l = [] := by
  rcases h.1.2 with ⟨_, h2⟩ | ⟨g, cap, cur, hv, _⟩
  · exact List.eq_nil_of_length_eq_zero h2
  · simp [BI.ad, hn] at hv
theorem RowC.nil_ {F : Fm} {β : Nat → BI} {id : Nat} {w : World} {α : Type} {c : Chunk} {E : Enc α} {l : List α} (h : RowC c E l) (hc : ChOk F β id w c) (hn : (β id).nil = true) : l = [] := by
  have hr := h.read hc
  cases l with
  | nil => rfl
  | cons x l =>
    have := (hr (by simp)).1.1
    rw [hn] at this
    cases this

theorem append_gen {T : TypeId} {x y : Operand} {j n m : Nat} {e sz : Nat} {α : Type} {E : Enc α} {bytes : Nat} {l l2 : List α} {cj : Chunk} {X : SV} {wr1 : List (Nat × Chunk)} {hin1 : List (Nat × Chunk)} [hT : TySlice P T e sz] [hE : TyElem P e E bytes] (hx : evS sl x = some X) (hy : evS sl y = some (.a j m)) (hcj : getL hp j = some cj) [hr : RowC cj E l2]
    (hn : l.length = n) (hm : l2.length = m) (hmax : n + m ≤ 1099511627776) (hby : Nat.ble bytes 64 = true) (ht : Nat.blt t nt = true) (hf : getL hp t = none) (h1 : ∀ p ∈ hin1, getL hp p.1 = some p.2)
    (hX : ∀ (F : Fm) (β : Nat → BI) (s : St) (a : Act) (w : World), SatB F nt β s a w → (∀ p ∈ hin1, getL s.hp p.1 = some p.2) → w.ownsRow 0 e E.size (X.den β) n (flat E l))
    (hown : ∀ (F : Fm) (β : Nat → BI) (s : St) (a : Act) (w : World) g, SatB F nt β s a w → (∀ p ∈ hin1, getL s.hp p.1 = some p.2) → (X.den β).ownBlock = some g → ∃ i c0, getL s.hp i = some c0 ∧ (getL wr1 i).isSome = true ∧ Wr β i c0 g)
    (hwr1 : ∀ i c, getL wr1 i = some c → c = .dead) :
    OpR P nt ⟨sl, hp⟩ ⟨some t, .call { callee := .builtin .append, args := #[x, y], argTypes := #[T, T] }, ty, pos, af, g⟩ ⟨insOf x X ++ insOf y (.a j m), (j, cj) :: hin1, [t], some t, .a t (n + m), (t, .own e E (l ++ l2)) :: wr1⟩ ⟨(t, .a t (n + m)) :: sl, (t, .own e E (l ++ l2)) :: (wr1 ++ hp)⟩ := by
  subst hn
  subst hm
  have hby' := Nat.le_of_ble_eq_true hby
  refine ⟨⟨rfl, fun F s a w hs hpre => ?_⟩, ⟨?_, ?_, by simpa using hf⟩, rfl⟩
  · obtain ⟨β, hs⟩ := hs
    obtain ⟨p1, p2, p3⟩ := hpre
    have hn := p3 t (by simp)
    have q : ∀ p ∈ insOf x X ++ insOf y (.a j l2.length), a.tmps[p.1]? = some (p.2.den β) := fun p hp => hs.2.2.1 _ _ (p1 p hp)
    have ex := eval_of (evC_of hx) (fun p hp' => q p (List.mem_append_left _ hp'))
    have ey := eval_of (evC_of hy) (fun p hp' => q p (List.mem_append_right _ hp'))
    have cj0 := p2 (j, cj) (by simp)
    have hj := hs.2.2.2.1.1 _ _ cj0
    have hin : ∀ p ∈ hin1, getL s.hp p.1 = some p.2 := fun p hp => p2 p (List.mem_cons_of_mem _ hp)
    have ho := hX F β s a w hs hin
    obtain ⟨v', w', hrun, ho', hgr, hbk⟩ := run_append_row (P := P) (ty := ty) hT hE ho (hr.read hj) (hr.nil_ hj) hmax hby' (Nat.zero_le _)
    obtain ⟨b, hv', hO, hnilb, hobk, hod⟩ := own_cases ho'
    refine Oper.wp_ok (v := v') (w' := w') ?_ ?_
    · simp [execOp, resolve, invoke, builtin, ex, ey, SV.den, hrun]
    · have ht' : t < nt := by simp [Nat.blt] at ht; omega
      have hlen : (l ++ l2).length = l.length + l2.length := by simp
      have one : ∀ {i c}, getL ((t, .own e E (l ++ l2)) :: wr1) i = some c → (i = t ∧ c = .own e E (l ++ l2)) ∨ (i ≠ t ∧ c = .dead) := by
        intro i c hi
        rw [getL_cons] at hi
        split at hi
        · rename_i e1
          injection hi with hi
          exact .inl ⟨e1.symm, hi.symm⟩
        · rename_i e1
          exact .inr ⟨Ne.symm e1, hwr1 i c hi⟩
      have blk : ∀ q, b.nil = false → q = b.B → (X.den β).ownBlock = some q ∨ q = w.heap.size := by
        intro q hnb hq
        rw [hobk, hnb] at hbk
        rcases hbk with h | h
        · exact .inl (by rw [← h, hq]; simp)
        · exact .inr (by simp at h; omega)
      have hmv := hs.move (β' := upd β t b) (w' := w') (T := fun g => (X.den β).ownBlock = some g) ((t, .own e E (l ++ l2)) :: wr1) (upd_old hn) (Fr.of_grown hgr (fun k _ e => e))
        (fun g hg => by
          obtain ⟨i, c0, hi, hw, hwr⟩ := hown F β s a w g hs hin hg
          exact ⟨i, c0, hi, by rw [getL_cons]; split <;> simp [hw], hwr⟩)
        (fun i c hi => by
          rcases one hi with ⟨rfl, rfl⟩ | ⟨_, rfl⟩
          · refine own_ok_of ?_ hO hod (fun hnb => ?_)
            rotate_left
            · rcases blk b.B hnb rfl with h | h
              · obtain ⟨i, c0, hi, hw, hwr⟩ := hown F β s a w b.B hs hin h
                exact (hs.2.2.2.1.1 i c0 hi).mine hwr
              · have := hs.2.2.2.2.2.size
                exact .inl (by omega)
            rw [hlen, ← hv']
            exact ho'
          · trivial)
        (fun i c g hi hg => by
          rcases one hi with ⟨rfl, rfl⟩ | ⟨_, rfl⟩
          · obtain ⟨hnb, hq⟩ := own_bl_of (Wr.bl hg)
            rcases blk g hnb hq with h | h
            · obtain ⟨i, c0, hi, hw, hwr⟩ := hown F β s a w g hs hin h
              exact .inr ⟨i, c0, hi, by rw [getL_cons]; split <;> simp [hw], hwr⟩
            · exact .inl (by omega)
          · exact hg.elim)
        (fun i c g hi hg => by
          rcases one hi with ⟨rfl, rfl⟩ | ⟨_, rfl⟩
          · obtain ⟨hnb, hq⟩ := own_bl_of hg
            rcases blk g hnb hq with h | h
            · obtain ⟨i, c0, hi, hw, hwr⟩ := hown F β s a w g hs hin h
              exact .inr ⟨i, c0, hi, hwr.bl, .inl (by rw [getL_cons]; split <;> simp [hw])⟩
            · exact .inl (by omega)
          · exact hg.elim)
        (fun i k ci ck hne hi hk g hg hb => by
          rcases one hi with ⟨rfl, rfl⟩ | ⟨_, rfl⟩
          · rcases one hk with ⟨rfl, rfl⟩ | ⟨_, rfl⟩
            · exact hne rfl
            · exact hb.elim
          · exact hg.elim)
        (fun i c hi k hk => by
          rcases one hi with ⟨rfl, rfl⟩ | ⟨_, rfl⟩ <;> simp [Chunk.ids] at hk)
      have hput := hmv.put (t := t) (x := .a t (l.length + l2.length)) ht' (fun i hi => by
        have : i = t := by simpa [SV.ids] using hi
        subst this
        simp [getL_cons])
      have hden : (SV.a t (l.length + l2.length)).den (upd β t b) = v' := by rw [hv', ← BI.dn_ad hod]; simp [SV.den, upd_same]
      rw [hden] at hput
      exact ⟨_, hput⟩
  · intro p hp'
    rcases List.mem_append.1 hp' with h1 | h1
    · exact insOf_pre (s := ⟨sl, hp⟩) hx p h1
    · exact insOf_pre (s := ⟨sl, hp⟩) hy p h1
  · intro p hp'
    rcases List.mem_cons.1 hp' with rfl | h
    · exact hcj
    · exact h1 p h

theorem OpR.append {T : TypeId} {x y : Operand} {i j n m : Nat} {e sz : Nat} {α : Type} {E : Enc α} {bytes : Nat} {l l2 : List α} {cj : Chunk} [hT : TySlice P T e sz] [hE : TyElem P e E bytes] (hx : evS sl x = some (.a i n)) (hy : evS sl y = some (.a j m)) (hci : getL hp i = some (.own e E l)) (hcj : getL hp j = some cj) [hr : RowC cj E l2]
    (hn : l.length = n) (hm : l2.length = m) (hmax : n + m ≤ 1099511627776) (hby : Nat.ble bytes 64 = true) (ht : Nat.blt t nt = true) (hf : getL hp t = none) :
    OpR P nt ⟨sl, hp⟩ ⟨some t, .call { callee := .builtin .append, args := #[x, y], argTypes := #[T, T] }, ty, pos, af, g⟩ ⟨insOf x (.a i n) ++ insOf y (.a j m), [(j, cj), (i, .own e E l)], [t], some t, .a t (n + m), [(t, .own e E (l ++ l2)), (i, .dead)]⟩ ⟨(t, .a t (n + m)) :: sl, (t, .own e E (l ++ l2)) :: (i, .dead) :: hp⟩ := by
  refine append_gen (wr1 := [(i, .dead)]) (hin1 := [(i, .own e E l)]) hx hy hcj hn hm hmax hby ht hf (by simpa using hci) ?_ ?_ ?_
  · intro F β s a w hs h1
    have := hs.2.2.2.1.1 i _ (h1 (i, .own e E l) (by simp))
    rw [← hn]
    simp only [SV.den, BI.dn_ad this.2.2.2]
    exact this.1
  · intro F β s a w g hs h1 hg
    have hod := (hs.2.2.2.1.1 i _ (h1 (i, .own e E l) (by simp))).2.2.2
    refine ⟨i, _, h1 (i, .own e E l) (by simp), by simp [getL_cons], ?_⟩
    simp only [SV.den, BI.dn_ad hod] at hg
    simp only [BI.ad] at hg
    cases hb : (β i).nil
    · rw [hb] at hg
      simp [Value.ownBlock] at hg
      exact ⟨hb, hg.symm⟩
    · rw [hb] at hg
      simp [Value.ownBlock] at hg
  · intro k c hk
    rw [getL_cons] at hk
    split at hk
    · injection hk with hk
      exact hk.symm
    · simp [getL] at hk
theorem OpR.appendNil {T : TypeId} {x y : Operand} {j m : Nat} {e sz : Nat} {α : Type} {E : Enc α} {bytes : Nat} {l2 : List α} {cj : Chunk} [hT : TySlice P T e sz] [hE : TyElem P e E bytes] (hx : evS sl x = some (.v (.slice none 0 0))) (hy : evS sl y = some (.a j m)) (hcj : getL hp j = some cj) [hr : RowC cj E l2]
    (hm : l2.length = m) (hmax : 0 + m ≤ 1099511627776) (hby : Nat.ble bytes 64 = true) (ht : Nat.blt t nt = true) (hf : getL hp t = none) :
    OpR P nt ⟨sl, hp⟩ ⟨some t, .call { callee := .builtin .append, args := #[x, y], argTypes := #[T, T] }, ty, pos, af, g⟩ ⟨insOf x (.v (.slice none 0 0)) ++ insOf y (.a j m), [(j, cj)], [t], some t, .a t (0 + m), [(t, .own e E ([] ++ l2))]⟩ ⟨(t, .a t (0 + m)) :: sl, (t, .own e E ([] ++ l2)) :: hp⟩ := by
  refine append_gen (wr1 := []) (hin1 := []) hx hy hcj rfl hm hmax hby ht hf (by simp) ?_ ?_ ?_
  · intro F β s a w hs h1
    exact World.ownsRow_nil _ _ _ _
  · intro F β s a w g hs h1 hg
    simp [SV.den, Value.ownBlock] at hg
  · intro k c hk
    simp [getL] at hk
/-- A row held against nil: it has elements. -/
theorem OpR.eqlNil {T : TypeId} {x : Operand} {id n : Nat} {e sz : Nat} {T' : TypeId} {α : Type} {c : Chunk} {E : Enc α} {l : List α} [hT : TySlice P T e sz] (hx : evS sl x = some (.a id n)) (hc : getL hp id = some c) [hr : RowC c E l] (hl : 0 < l.length) (ht : Nat.blt t nt = true) :
    OpR P nt ⟨sl, hp⟩ ⟨some t, .binOp .eql T x (.const (.slice none 0 0)) T', ty, pos, af, g⟩ ⟨insOf x (.a id n), [(id, c)], [], some t, .v (.bool false), []⟩ ⟨(t, .v (.bool false)) :: sl, hp⟩ := by
  refine OpR.look rfl ht hx hc (fun i hi => by simp [SV.ids] at hi) fun F β a w h1 h3 => ?_
  have h4 := (hr.read h3 (by rintro rfl; simp at hl)).1.1
  have hc0 : a.eval (.const (.slice none 0 0)) = .slice none 0 0 := rfl
  simp only [execOp, h1, hc0, SV.den, Sem.run_bind, eqGuard_at_slice, Sem.run_pure, Result.andThen_ok]
  rw [Lib.run_eql_slice_nil w T e _ _ _ _ _ hT.h]
  simp [BI.dn, h4]
theorem OpR.neqNil {T : TypeId} {x : Operand} {id n : Nat} {e sz : Nat} {T' : TypeId} {α : Type} {c : Chunk} {E : Enc α} {l : List α} [hT : TySlice P T e sz] (hx : evS sl x = some (.a id n)) (hc : getL hp id = some c) [hr : RowC c E l] (hl : 0 < l.length) (ht : Nat.blt t nt = true) :
    OpR P nt ⟨sl, hp⟩ ⟨some t, .binOp .neq T x (.const (.slice none 0 0)) T', ty, pos, af, g⟩ ⟨insOf x (.a id n), [(id, c)], [], some t, .v (.bool true), []⟩ ⟨(t, .v (.bool true)) :: sl, hp⟩ := by
  refine OpR.look rfl ht hx hc (fun i hi => by simp [SV.ids] at hi) fun F β a w h1 h3 => ?_
  have h4 := (hr.read h3 (by rintro rfl; simp at hl)).1.1
  have hc0 : a.eval (.const (.slice none 0 0)) = .slice none 0 0 := rfl
  simp only [execOp, h1, hc0, SV.den, Sem.run_bind, eqGuard_at_slice, Sem.run_pure, Result.andThen_ok]
  rw [Go.run_neq_slice_nil_any w T e _ _ _ _ _ hT.h]
  simp [BI.dn, h4]
theorem OpR.eqlNilV {T : TypeId} {x : Operand} {ao : Option Addr} {n cp : Nat} {e sz : Nat} {T' : TypeId} [hT : TySlice P T e sz] (hx : evS sl x = some (.v (.slice ao n cp))) (ht : Nat.blt t nt = true) :
    OpR P nt ⟨sl, hp⟩ ⟨some t, .binOp .eql T x (.const (.slice none 0 0)) T', ty, pos, af, g⟩ ⟨insOf x (.v (.slice ao n cp)) ++ insOf (.const (.slice none 0 0)) (.v (.slice none 0 0)), [], [], some t, .v (.bool ao.isNone), []⟩ ⟨(t, .v (.bool ao.isNone)) :: sl, hp⟩ :=
  OpR.binv hx rfl ht fun w => by
    simp only [Sem.run_bind, eqGuard_at_slice, Sem.run_pure, Result.andThen_ok]
    exact Lib.run_eql_slice_nil w T e _ _ _ _ _ hT.h
theorem OpR.neqNilV {T : TypeId} {x : Operand} {ao : Option Addr} {n cp : Nat} {e sz : Nat} {T' : TypeId} [hT : TySlice P T e sz] (hx : evS sl x = some (.v (.slice ao n cp))) (ht : Nat.blt t nt = true) :
    OpR P nt ⟨sl, hp⟩ ⟨some t, .binOp .neq T x (.const (.slice none 0 0)) T', ty, pos, af, g⟩ ⟨insOf x (.v (.slice ao n cp)) ++ insOf (.const (.slice none 0 0)) (.v (.slice none 0 0)), [], [], some t, .v (.bool (!ao.isNone)), []⟩ ⟨(t, .v (.bool (!ao.isNone))) :: sl, hp⟩ :=
  OpR.binv hx rfl ht fun w => by
    simp only [Sem.run_bind, eqGuard_at_slice, Sem.run_pure, Result.andThen_ok]
    exact Go.run_neq_slice_nil_any w T e _ _ _ _ _ hT.h
class TyBool (P : Program) (T : TypeId) : Prop where
  h : P.underlying T = some .bool
theorem OpR.eqlB {T T' : TypeId} {x y : Operand} {a b : Bool} [hT : TyBool P T] (hx : evS sl x = some (.v (.bool a))) (hy : evS sl y = some (.v (.bool b))) (ht : Nat.blt t nt = true) :
    OpR P nt ⟨sl, hp⟩ ⟨some t, .binOp .eql T x y T', ty, pos, af, g⟩ ⟨insOf x (.v (.bool a)) ++ insOf y (.v (.bool b)), [], [], some t, .v (.bool (decide (a = b))), []⟩ ⟨(t, .v (.bool (decide (a = b)))) :: sl, hp⟩ :=
  OpR.binv hx hy ht fun w => by
    simp only [Sem.run_bind, eqGuard_at_bool, Sem.run_pure, Result.andThen_ok]
    rw [run_eql_bool w _ _ _ hT.h]
    cases a <;> cases b <;> rfl
theorem OpR.neqB {T T' : TypeId} {x y : Operand} {a b : Bool} [hT : TyBool P T] (hx : evS sl x = some (.v (.bool a))) (hy : evS sl y = some (.v (.bool b))) (ht : Nat.blt t nt = true) :
    OpR P nt ⟨sl, hp⟩ ⟨some t, .binOp .neq T x y T', ty, pos, af, g⟩ ⟨insOf x (.v (.bool a)) ++ insOf y (.v (.bool b)), [], [], some t, .v (.bool (decide (a ≠ b))), []⟩ ⟨(t, .v (.bool (decide (a ≠ b)))) :: sl, hp⟩ :=
  OpR.binv hx hy ht fun w => by
    simp only [Sem.run_bind, eqGuard_at_bool, Sem.run_pure, Result.andThen_ok]
    rw [run_neq_bool w _ _ _ hT.h]
    cases a <;> cases b <;> rfl
/-- An append of nothing. -/
theorem OpR.appendE {T : TypeId} {x y : Operand} {i n : Nat} {ao : Option Addr} {cp : Nat} {e sz : Nat} {α : Type} {E : Enc α} {bytes : Nat} {l : List α} [hT : TySlice P T e sz] [hE : TyElem P e E bytes] (hx : evS sl x = some (.a i n)) (hy : evS sl y = some (.v (.slice ao 0 cp))) (hci : getL hp i = some (.own e E l)) (hn : l.length = n) (ht : Nat.blt t nt = true) :
    OpR P nt ⟨sl, hp⟩ ⟨some t, .call { callee := .builtin .append, args := #[x, y], argTypes := #[T, T] }, ty, pos, af, g⟩ ⟨insOf x (.a i n) ++ insOf y (.v (.slice ao 0 cp)), [(i, .own e E l)], [], some t, .a i n, []⟩ ⟨(t, .a i n) :: sl, hp⟩ := by
  subst hn
  refine OpR.look2 rfl ht hx hy hci (fun j hj => .inl hj) fun F β a w h1 h2 h3 => ?_
  obtain ⟨j, z, hi, hz, hi1, hi2, hz1, hz2⟩ := elem_info hE
  obtain ⟨ho, hO, _, hod⟩ := h3
  have hcap : l.length ≤ (β i).cap := by
    rcases ho.2 with ⟨_, h⟩ | ⟨g', cap', cur, hv, _, _, hnc, _⟩
    · omega
    · injection hv with _ _ hv
      omega
  simp only [execOp, resolve, invoke, builtin, Sem.run_bind, Sem.run_pure, Result.andThen_ok, List.map_toArray, List.map_cons, List.map_nil, h1, h2, SV.den]
  have hrun : (Builtin.append_ #[T, T] ty #[.slice (β i).ad l.length (β i).cap, .slice ao 0 cp]).run P w = .ok (.slice (β i).ad l.length (β i).cap) w := by
    cases ao with
    | none =>
      cases hb : (β i).ad <;> simp [Builtin.append_, run_underlying hT.h, sizeOf, typeInfo, hi, Builtin.lenOf, Builtin.firstCells, hcap, storeCells]
    | some ad =>
      cases hb : (β i).ad <;> simp [Builtin.append_, run_underlying hT.h, sizeOf, typeInfo, hi, Builtin.lenOf, Builtin.firstCells, hcap, storeCells, loadCells, loadCellsFrom]
  rw [BI.dn_ad hod, hrun]
  rfl
end
end Go.Proofs.Ytiboffhdabeiiaa
