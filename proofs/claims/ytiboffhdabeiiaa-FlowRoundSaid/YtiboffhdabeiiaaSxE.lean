/-
  The symbolic state: stores, literals, make, append. Plain lemmas over any program.
-/
import Derived.Test.YtiboffhdabeiiaaSxD
namespace Go.Proofs.Ytiboffhdabeiiaa
open Go Go.RowKit

theorem setCells_fr (b : Nat) : ∀ (vs : List Value) (o : Nat) (w : World), Fr (fun g => g = b) w (w.setCells b o vs)
  | [], _, w => Fr.refl _ w
  | v :: r, o, w => ((Fr.refl (fun g => g = b) w).setCell (p := ⟨b, o, none⟩) (.inl rfl) v).trans (setCells_fr b r (o + 1) (w.setCell ⟨b, o, none⟩ v))
theorem setCells_block (b : Nat) (t : TypeId) : ∀ (vs : List Value) (o : Nat) (w : World) (cur : Array Value), w.heap[b]? = some (.cells cur t (0, 0)) → o + vs.length ≤ cur.size →
    ∃ cur', (w.setCells b o vs).heap[b]? = some (.cells cur' t (0, 0)) ∧ cur'.toList = cur.toList.take o ++ (vs ++ cur.toList.drop (o + vs.length))
  | [], o, w, cur, h, _ => ⟨cur, h, by simp⟩
  | v :: r, o, w, cur, h, hl => by
    have h1 : (w.setCell ⟨b, o, none⟩ v).heap[b]? = some (.cells (cur.setIfInBounds o v) t (0, 0)) := by
      simp [World.setCell, Array.getElem?_modify, h]
    obtain ⟨cur', h2, h3⟩ := setCells_block b t r (o + 1) _ _ h1 (by simp at hl ⊢; omega)
    refine ⟨cur', h2, ?_⟩
    rw [h3]
    simp at hl
    rw [Array.toList_setIfInBounds]
    have ho : o < cur.toList.length := by simp; omega
    rw [List.take_set, List.take_add_one, List.getElem?_eq_getElem ho, List.drop_set_of_lt (by omega)]
    simp only [Option.toList_some, List.length_cons, List.cons_append]
    rw [List.set_append_right _ _ (by simp; omega)]
    simp [Nat.add_assoc, Nat.add_comm 1, Nat.min_eq_left (show o ≤ cur.size by omega)]

section
variable {P : Program} {nt : Nat} {o : Oper} {sl : List (Nat × SV)} {hp : List (Nat × Chunk)} {t : Nat}
variable {ty : TypeId} {pos : String} {af : Array Edge} {g : Option (Nat × Bool)}

theorem run_storeAt' {T : TypeId} {b off : Nat} {v : Value} {w : World} (hn : (P.info? T).map (·.size) = some v.cells.size) (hc : ∀ j, j < v.cells.size → (w.cell? ⟨b, off + j, none⟩).isSome = true) (hf : ∀ j, j < v.cells.size → w.frozen? ⟨b, off + j, none⟩ = false)
    (h1 : ∀ u ∈ v.cells.toList, u.oneCell' = true) : (Instr.storeAt T (.pointer (some ⟨b, off, none⟩)) v).run P w = .ok () (w.setCells b off v.cells.toList) := by
  simp only [Instr.storeAt, Instr.sureAddr, storeVar, Sem.run_bind, Sem.run_pure, Result.andThen_ok, run_sizeOf' hn, ne_eq, not_true_eq_false, if_false]
  have := run_storeCells_cells (P := P) b off v.cells.toList 0 w (by simpa using hc) (by simpa using hf) h1
  simpa using this

/-- A store rewrites what lies behind a name. -/
theorem OpR.put {x y : Operand} {X Y : SV} {id : Nat} {c c' : Chunk} (hd : o.dst = none) (hx : evS sl x = some X) (hy : evS sl y = some Y) (hc : getL hp id = some c)
    (hids : ∀ i ∈ c'.ids, i ∈ c.ids ∨ i ∈ Y.ids) (hwr : ∀ β g, Wr β id c' g → Wr β id c g) (hbl : ∀ β g, Bl β id c' g → Bl β id c g)
    (h : ∀ (F : Fm) (β : Nat → BI) (a : Act) (w : World), a.eval x = X.den β → a.eval y = Y.den β → ChOk F β id w c → ∃ w', (execOp a.eval o).run P w = .ok .skip w' ∧ Fr (fun g => Wr β id c g) w w' ∧ ChOk F β id w' c') :
    OpR P nt ⟨sl, hp⟩ o ⟨insOf x X ++ insOf y Y, [(id, c)], [], none, .v undef, [(id, c')]⟩ ⟨sl, (id, c') :: hp⟩ := by
  refine ⟨⟨hd.symm, fun F s a w hs hpre => ?_⟩, ⟨?_, by simpa using hc, by simp⟩, rfl⟩
  · obtain ⟨β, hs⟩ := hs
    obtain ⟨p1, p2, _⟩ := hpre
    have hci := p2 (id, c) (by simp)
    have q : ∀ p ∈ insOf x X ++ insOf y Y, a.tmps[p.1]? = some (p.2.den β) := fun p hp => hs.2.2.1 _ _ (p1 p hp)
    obtain ⟨w', hrun, hfr, hok⟩ := h F β a w (eval_of (evC_of hx) (fun p hp' => q p (List.mem_append_left _ hp'))) (eval_of (evC_of hy) (fun p hp' => q p (List.mem_append_right _ hp'))) (hs.2.2.2.1.1 _ _ hci)
    refine Oper.wp_skip hrun ?_
    rw [hd]
    refine ⟨β, hs.rewrite id c c' hci hfr hok (hwr β) (hbl β) (fun j hj => ?_)⟩
    rcases hids j hj with h1 | h1
    · exact hs.2.2.2.2.1.2 id c hci j h1
    · exact ids_of hs.2.2.2.2.1 (evC_of hy) (fun p hp' => p1 p (List.mem_append_right _ hp')) j h1
  · intro p hp'
    rcases List.mem_append.1 hp' with h1 | h1
    · exact insOf_pre (s := ⟨sl, hp⟩) hx p h1
    · exact insOf_pre (s := ⟨sl, hp⟩) hy p h1

def spliceS (cs : List SV) (off : Nat) (l : List SV) : List SV := cs.take off ++ (l ++ cs.drop (off + l.length))
theorem denL_append (β : Nat → BI) (l m : List SV) : denL β (l ++ m) = denL β l ++ denL β m := by rw [denL_eq, denL_eq, denL_eq, List.map_append]
theorem denL_splice (β : Nat → BI) (cs : List SV) (off : Nat) (l : List SV) : denL β (spliceS cs off l) = (denL β cs).take off ++ (denL β l ++ (denL β cs).drop (off + (denL β l).length)) := by
  unfold spliceS
  rw [denL_append, denL_append, denL_len]
  simp [denL_eq, List.map_take, List.map_drop]
theorem splice_ids {cs l : List SV} {off i : Nat} (h : i ∈ idsL (spliceS cs off l)) : i ∈ idsL cs ∨ i ∈ idsL l := by
  obtain ⟨x, hx, hi⟩ := mem_idsL.1 h
  rcases List.mem_append.1 hx with h1 | h1
  · exact .inl (mem_idsL.2 ⟨x, List.mem_of_mem_take h1, hi⟩)
  · rcases List.mem_append.1 h1 with h1 | h1
    · exact .inr (mem_idsL.2 ⟨x, h1, hi⟩)
    · exact .inl (mem_idsL.2 ⟨x, List.mem_of_mem_drop h1, hi⟩)

theorem storeP_gen {T : TypeId} {x y : Operand} {id off n : Nat} {b : Bool} {tt : TypeId} {cs cs' : List SV} {Y : SV} [hT : TyShape P T b n] (hx : evS sl x = some (.p id off)) (hy : evS sl y = some Y) (hc : getL hp id = some (.cells tt cs))
    (hY : Y.flatOk = true) (hn : Nat.beq Y.cellsS.length n = true) (hl : Nat.ble (off + n) cs.length = true) (hcs : spliceS cs off Y.cellsS = cs') :
    OpR P nt ⟨sl, hp⟩ ⟨none, .store T x y, ty, pos, af, g⟩ ⟨insOf x (.p id off) ++ insOf y Y, [(id, .cells tt cs)], [], none, .v undef, [(id, .cells tt cs')]⟩ ⟨sl, (id, .cells tt cs') :: hp⟩ := by
  subst hcs
  have hn' : Y.cellsS.length = n := Nat.eq_of_beq_eq_true hn
  have hl' : off + n ≤ cs.length := Nat.le_of_ble_eq_true hl
  refine OpR.put rfl hx hy hc (fun i hi => ?_) (fun β g h => h) (fun β g h => h) fun F β a w h1 h2 h3 => ?_
  · rcases splice_ids hi with h | h
    · exact .inl h
    · rw [SV.cells_ids hY] at h
      exact .inr h
  · have hcd := SV.cells_den hY β
    have hsz : (Y.den β).cells.size = n := by rw [hcd]; simp [denL_len, hn']
    obtain ⟨h3a, h3b, h3c, h3d⟩ := h3
    have hrun := run_storeAt' (P := P) (T := T) (b := (β id).B) (off := off) (v := Y.den β) (w := w) (by rw [hsz]; exact hT.hn)
      (fun j hj => by
        rw [cell_of_row w _ _ _ tt (0, 0) h3c]
        have : off + j < (denL β cs).length := by rw [denL_len]; omega
        simp [List.getElem?_eq_getElem this])
      (fun j hj => by simp [World.frozen?, h3c]) (by rw [hcd]; simpa using SV.cells_one hY β)
    refine ⟨w.setCells (β id).B off (Y.den β).cells.toList, ?_, setCells_fr _ _ _ _, ?_⟩
    · simp only [execOp, h1, h2, SV.den, Sem.run_bind, hrun, Result.andThen_ok, Sem.run_pure]
    · obtain ⟨cur', h5, h6⟩ := setCells_block (β id).B tt (Y.den β).cells.toList off w _ h3c (by simp [denL_len, hsz]; omega)
      refine ⟨h3a, h3b, ?_, h3d⟩
      rw [h5]
      congr 2
      apply Array.ext'
      rw [h6, hcd]
      simp [denL_splice]
theorem OpR.storeP {T : TypeId} {x y : Operand} {id off n : Nat} {b : Bool} {tt : TypeId} {cs : List SV} {Y : SV} [hT : TyShape P T b n] (hx : evS sl x = some (.p id off)) (hy : evS sl y = some Y) (hc : getL hp id = some (.cells tt cs))
    (hY : Y.flatOk = true) (hn : Nat.beq Y.cellsS.length n = true) (hl : Nat.ble (off + n) cs.length = true) :
    OpR P nt ⟨sl, hp⟩ ⟨none, .store T x y, ty, pos, af, g⟩ ⟨insOf x (.p id off) ++ insOf y Y, [(id, .cells tt cs)], [], none, .v undef, [(id, .cells tt (spliceS cs off Y.cellsS))]⟩ ⟨sl, (id, .cells tt (spliceS cs off Y.cellsS)) :: hp⟩ :=
  storeP_gen hx hy hc hY hn hl rfl

/-- A value's cells, where no name stands in them. -/
def valsL : List SV → Option (List Value)
  | [] => some []
  | .v x :: l => (valsL l).map (x :: ·)
  | _ :: _ => none
theorem valsL_spec (β : Nat → BI) : ∀ {l : List SV} {vs : List Value}, valsL l = some vs → denL β l = vs
  | [], vs, h => by simp [valsL] at h; subst h; rfl
  | .v x :: l, vs, h => by
    simp only [valsL, Option.map_eq_some_iff] at h
    obtain ⟨us, h1, rfl⟩ := h
    simp [denL, SV.den, valsL_spec β h1]
  | .p _ _ :: _, _, h => by simp [valsL] at h
  | .e _ _ _ _ :: _, _, h => by simp [valsL] at h
  | .a _ _ :: _, _, h => by simp [valsL] at h
  | .agg _ :: _, _, h => by simp [valsL] at h
  | .tup _ :: _, _, h => by simp [valsL] at h
  | .fn _ _ :: _, _, h => by simp [valsL] at h
  | .mp _ :: _, _, h => by simp [valsL] at h
  | .ip _ _ _ :: _, _, h => by simp [valsL] at h

theorem splice_list {α : Type} (A X C vs : List α) (j : Nat) (hj : j + vs.length ≤ X.length) :
    (A ++ (X ++ C)).take (A.length + j) ++ (vs ++ (A ++ (X ++ C)).drop (A.length + j + vs.length)) = A ++ ((X.take j ++ (vs ++ X.drop (j + vs.length))) ++ C) := by
  rw [List.take_append, List.take_of_length_le (l := A) (by omega), show A.length + j - A.length = j by omega, List.take_append_of_le_length (by omega)]
  rw [List.drop_append, List.drop_of_length_le (l := A) (by omega), show A.length + j + vs.length - A.length = j + vs.length by omega, List.drop_append_of_le_length (by omega)]
  simp

theorem flat_splice {α : Type} (E : Enc α) {l : List α} {k : Nat} {y y' : α} {j : Nat} {vs : List Value} (hk : l[k]? = some y) (hj : j + vs.length ≤ E.size) (hd : E.enc y' = (E.enc y).take j ++ (vs ++ (E.enc y).drop (j + vs.length))) :
    flat E (l.set k y') = (flat E l).take (k * E.size + j) ++ (vs ++ (flat E l).drop (k * E.size + j + vs.length)) := by
  obtain ⟨hlt, he⟩ := List.getElem?_eq_some_iff.1 hk
  have h0 : flat E l = (flat E l).take (k * E.size) ++ (E.enc y ++ (flat E l).drop (k * E.size + E.size)) := by
    have := flat_set E (a := y) hlt
    rwa [show l.set k y = l by rw [← he]; exact List.set_getElem_self _] at this
  have hA : ((flat E l).take (k * E.size)).length = k * E.size := by
    rw [List.length_take, flat_len]
    have : (k + 1) * E.size ≤ l.length * E.size := Nat.mul_le_mul_right _ hlt
    rw [Nat.succ_mul] at this
    omega
  have h1 := splice_list ((flat E l).take (k * E.size)) (E.enc y) ((flat E l).drop (k * E.size + E.size)) vs j (by rw [E.len]; exact hj)
  rw [← h0, hA, ← hd] at h1
  rw [h1, flat_set E hlt]

theorem OpR.storeE {T : TypeId} {x y : Operand} {id size k j n : Nat} {b : Bool} {α : Type} {c : Chunk} {E : Enc α} {l : List α} {mk : List α → Chunk} {u u' : α} {Y : SV} {vs : List Value} [hT : TyShape P T b n] (hx : evS sl x = some (.e id size k j)) (hy : evS sl y = some Y) (hc : getL hp id = some c) [hr : WRow c E l mk]
    (hs : E.size = size) (hk : l[k]? = some u) (hY : Y.flatOk = true) (hv : valsL Y.cellsS = some vs) (hn : Nat.beq vs.length n = true) (hl : Nat.ble (j + n) size = true) (hd : E.dec ((E.enc u).take j ++ (vs ++ (E.enc u).drop (j + vs.length))) = some u') :
    OpR P nt ⟨sl, hp⟩ ⟨none, .store T x y, ty, pos, af, g⟩ ⟨insOf x (.e id size k j) ++ insOf y Y, [(id, c)], [], none, .v undef, [(id, mk (l.set k u'))]⟩ ⟨sl, (id, mk (l.set k u')) :: hp⟩ := by
  subst hs
  have hn' : vs.length = n := Nat.eq_of_beq_eq_true hn
  have hl' : j + n ≤ E.size := Nat.le_of_ble_eq_true hl
  have hfl := flat_splice E (y' := u') hk (j := j) (vs := vs) (by omega) (E.decL _ _ hd)
  have hne : l ≠ [] := by rintro rfl; simp at hk
  have hne' : l.set k u' ≠ [] := by intro e; apply hne; have := congrArg List.length e; simpa using this
  have hki : k < l.length := (List.getElem?_eq_some_iff.1 hk).1
  have hbound : k * E.size + j + vs.length ≤ (flat E l).length := by
    rw [flat_len]
    have : (k + 1) * E.size ≤ l.length * E.size := Nat.mul_le_mul_right _ hki
    rw [Nat.succ_mul] at this
    omega
  have cellsEq : ∀ β, (Y.den β).cells.toList = vs := fun β => by rw [SV.cells_den hY β]; simpa using valsL_spec β hv
  have one : ∀ u ∈ vs, u.oneCell' = true := by
    have := SV.cells_one hY (fun _ => noBI)
    rwa [valsL_spec _ hv] at this
  have szEq : ∀ β, (Y.den β).cells.size = vs.length := fun β => by rw [← cellsEq β]; simp
  rcases hr.h with ⟨rfl, rfl⟩ | ⟨e, rfl, rfl⟩
  · refine OpR.put rfl hx hy hc (fun i hi => by simp [Chunk.ids] at hi) (fun β g h => ⟨hne, h.2⟩) (fun β g h => ⟨hne, h.2⟩) fun F β a w h1 h2 h3 => ?_
    obtain ⟨hrd, hmt⟩ := h3
    obtain ⟨hnil, hcell⟩ := hrd hne
    obtain ⟨hmine, hfro⟩ := hmt hne
    have hcs : ∀ i, i < (flat E l).length → (w.cell? ⟨(β id).B, (β id).O + i, none⟩).isSome = true := fun i hi => by rw [hcell i _ (List.getElem?_eq_getElem hi)]; rfl
    have hrun := run_storeAt' (P := P) (T := T) (b := (β id).B) (off := (β id).O + (k * E.size + j)) (v := Y.den β) (w := w) (by rw [szEq, hn']; exact hT.hn)
      (fun i hi => by rw [szEq] at hi; rw [Nat.add_assoc]; exact hcs _ (by omega)) (fun i hi => by rw [szEq] at hi; rw [Nat.add_assoc]; exact hfro _ (by omega)) (by rw [cellsEq]; exact one)
    rw [cellsEq] at hrun
    refine ⟨w.setCells (β id).B ((β id).O + (k * E.size + j)) vs, ?_, (setCells_fr _ _ _ _).mono (fun q _ h => ⟨hne, h⟩), ?_, fun _ => ⟨hmine, fun i hi => ?_⟩⟩
    · simp only [execOp, h1, h2, SV.den, Sem.run_bind, hrun, Result.andThen_ok, Sem.run_pure]
    · intro _
      refine ⟨⟨hnil.1, by rw [List.length_set]; exact hnil.2⟩, fun i v hv => ?_⟩
      rw [hfl] at hv
      by_cases hi1 : i < k * E.size + j
      · rw [List.getElem?_append_left (by rw [List.length_take]; omega), List.getElem?_take, if_pos hi1] at hv
        rw [World.cell?_setCells_out _ _ _ _ _ (fun _ _ => .inl (by dsimp only; omega))]
        exact hcell i v hv
      · rw [List.getElem?_append_right (by rw [List.length_take]; omega), List.length_take, Nat.min_eq_left (by omega)] at hv
        by_cases hi2 : i < k * E.size + j + vs.length
        · rw [List.getElem?_append_left (by omega)] at hv
          obtain ⟨hlt, he⟩ := List.getElem?_eq_some_iff.1 hv
          have := World.cell?_setCells_in (β id).B vs ((β id).O + (k * E.size + j)) w (fun q hq => by rw [Nat.add_assoc]; exact hcs _ (by omega)) (i - (k * E.size + j)) hlt
          rw [he] at this
          rw [← this]
          congr 2
          omega
        · rw [List.getElem?_append_right (by omega), List.getElem?_drop] at hv
          rw [World.cell?_setCells_out _ _ _ _ _ (fun _ _ => .inr (by dsimp only; omega))]
          refine hcell i v ?_
          rw [← hv]
          congr 1
          omega
    · rw [World.frozen?_setCells]
      exact hfro i (by rw [flat_len] at hi ⊢; simpa using hi)
  · refine OpR.put rfl hx hy hc (fun i hi => by simp [Chunk.ids] at hi) (fun β g h => h) (fun β g h => h) fun F β a w h1 h2 h3 => ?_
    obtain ⟨hown, hO, hmn⟩ := h3
    have hpos : 0 < (flat E l).length := by rw [flat_len]; exact Nat.mul_pos (List.length_pos_iff.2 hne) E.pos
    obtain ⟨hnil, hcell⟩ := own_read hown hO hpos
    rcases hown.2 with hn0 | ⟨q, cap, cur, hv0, hb0, hh, hnc, hcm, hcsz, htk⟩
    · have := hown.1
      rw [hn0.2] at this
      omega
    · unfold BI.ad at hv0
      rw [hnil] at hv0
      simp at hv0
      obtain ⟨⟨hq, _⟩, hcap⟩ := hv0
      have hcurl : (flat E l).length ≤ cur.size := by
        rw [← htk]
        simp
        omega
      have hrun := run_storeAt' (P := P) (T := T) (b := (β id).B) (off := (β id).O + (k * E.size + j)) (v := Y.den β) (w := w) (by rw [szEq, hn']; exact hT.hn)
        (fun i hi => by
          rw [szEq] at hi
          rw [Nat.add_assoc, hcell (k * E.size + j + i) _ (List.getElem?_eq_getElem (by omega))]
          rfl)
        (fun i hi => by
          rw [hq]
          simp [World.frozen?, hh]) (by rw [cellsEq]; exact one)
      rw [cellsEq, hO, Nat.zero_add] at hrun
      obtain ⟨cur', h5, h6⟩ := setCells_block (β id).B e vs (k * E.size + j) w cur (by rw [hq]; exact hh) (by omega)
      refine ⟨w.setCells (β id).B (k * E.size + j) vs, ?_, (setCells_fr _ _ _ _).mono (fun q _ h => ⟨hnil, h⟩), ⟨?_, ?_⟩, hO, hmn⟩
      · simp only [execOp, h1, h2, SV.den, hO, Nat.zero_add, Sem.run_bind, hrun, Result.andThen_ok, Sem.run_pure]
      · rw [flat_len]
      · refine .inr ⟨q, cap, cur', ?_, hb0, by rw [← hq]; exact h5, by simpa using hnc, hcm, ?_, ?_⟩
        · unfold BI.ad
          rw [hnil, hO, hq, hcap]
          simp
        · have := congrArg List.length h6
          simp at this
          omega
        · rw [hfl, h6, ← htk]
          have hm : (l.set k u').length * E.size = l.length * E.size := by simp
          have hL := flat_len E l
          rw [hm]
          generalize l.length * E.size = M at *
          rw [List.take_take, Nat.min_eq_left (by omega), List.take_append, List.length_take, Nat.min_eq_left (by simp; omega), List.take_of_length_le (l := List.take _ _) (by simp; omega)]
          rw [List.take_append, List.take_of_length_le (l := vs) (by omega), List.take_drop, List.drop_take]
          congr 3
          rw [List.take_drop]
          congr 2
          omega
end
end Go.Proofs.Ytiboffhdabeiiaa
