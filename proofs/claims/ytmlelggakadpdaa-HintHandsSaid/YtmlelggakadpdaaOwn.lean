/-
  A range over a map under way; what is appended to a row of the call's own; the laws at the operations. Nothing here speaks of the program.
-/
import Derived.Test.YtmlelggakadpdaaSlc
namespace Go.Proofs.Ytmlelggakadpdaa
open Go.RowKit
set_option linter.unusedSectionVars false

section
variable {P : Program} {α β : Type} [DecidableEq α] {enc : α → Value} {encV : β → Value} {w w1 : World} {m r : Nat} {L todo : List (α × β)} {k : TypeId}

/-- Block r is an iterator over the map in block m, which holds L; todo: the entries still to come. -/
def IterIs (enc : α → Value) (encV : β → Value) (w : World) (m r : Nat) (L todo : List (α × β)) : Prop :=
  ∃ es clk since seen c0, w.heap[m]? = some (.map es clk) ∧ es.toList.map (fun e => (e.key, e.val)) = L.map (fun p => (enc p.1, encV p.2)) ∧
    (L.map (·.1)).Nodup ∧ (es.toList.map (·.born)).Pairwise (· < ·) ∧ (∀ e ∈ es.toList, e.born < clk) ∧
    w.heap[r]? = some (.mapIter (some m) since seen c0) ∧ (∀ x ∈ es.toList, x.born < since) ∧ since ≤ c0 ∧ since ≤ clk ∧
    (es.toList.filter (fun e => !seen.contains e.born)).map (fun e => (e.key, e.val)) = todo.map (fun p => (enc p.1, encV p.2))

theorem IterIs.map (h : IterIs enc encV w m r L todo) : MapIs enc encV w m L := by
  obtain ⟨es, clk, since, seen, c0, hb, hp, hn, hs, hc, _⟩ := h
  exact ⟨es, clk, hb, hp, hn, hs, hc⟩
theorem IterIs.lt (h : IterIs enc encV w m r L todo) : r < w.heap.size := by
  obtain ⟨es, clk, since, seen, c0, hb, hp, hn, hs, hc, hr, _⟩ := h
  exact heap_lt hr
theorem IterIs.ne (h : IterIs enc encV w m r L todo) : r ≠ m := by
  obtain ⟨es, clk, since, seen, c0, hb, hp, hn, hs, hc, hr, _⟩ := h
  rintro rfl
  rw [hr] at hb; cases hb
theorem IterIs.kept (h : IterIs enc encV w m r L todo) (hm : w1.heap[m]? = w.heap[m]?) (hr : w1.heap[r]? = w.heap[r]?) : IterIs enc encV w1 m r L todo := by
  obtain ⟨es, clk, since, seen, c0, hb, hp, hn, hs, hc, hr', rest⟩ := h
  exact ⟨es, clk, since, seen, c0, hm.trans hb, hp, hn, hs, hc, hr.trans hr', rest⟩
theorem IterIs.fr {S : List Nat} (h : IterIs enc encV w m r L todo) (hf : Fr S w w1) (hm : m ∉ S) (hr : r ∉ S) : IterIs enc encV w1 m r L todo :=
  h.kept (hf.block m h.map.lt hm) (hf.block r h.lt hr)
theorem IterIs.alloc (h : IterIs enc encV w m r L todo) (o : Obj) : IterIs enc encV (w.alloc o) m r L todo := h.fr ((Fr.refl [] w).alloc o) (by simp) (by simp)
theorem IterIs.drew (h : IterIs enc encV w m r L todo) : IterIs enc encV w.drew m r L todo := h
theorem IterIs.drewN (h : IterIs enc encV w m r L todo) (n : Nat) : IterIs enc encV (w.drewN n) m r L todo := h

theorem MapIs.run_range (h : MapIs enc encV w m L) {t e : TypeId} (ht : P.underlying t = some (.map k e)) :
    ∃ w', (Instr.range t (.map (some m))).run P w = .ok (.pointer (some ⟨w.heap.size, 0, none⟩)) w' ∧ IterIs enc encV w' m w.heap.size L L ∧ Grew w w' ∧ w'.heap.size = w.heap.size + 1 := by
  have hlt := h.lt
  obtain ⟨es, clk, hb, hp, hn, hs, hc⟩ := h
  refine ⟨_, run_range_map w t k e m es clk ht hb, ⟨es, clk, clk, #[], clk, ((MapKept.heap_alloc w _).2 m hlt).trans hb, hp, hn, hs, hc, (MapKept.heap_alloc w _).1, hc, Nat.le_refl _, Nat.le_refl _, ?_⟩, (Grew.refl w).alloc _, by simp⟩
  rw [List.filter_eq_self.2 (fun e _ => by simp)]
  exact hp

theorem filter_push {es : List MapEntry} {seen : Array Nat} {e : MapEntry} :
    es.filter (fun x => !(seen.push e.born).contains x.born) = (es.filter (fun x => !seen.contains x.born)).filter (fun x => decide (x.born ≠ e.born)) := by
  rw [List.filter_filter]
  congr 1
  funext x
  by_cases hx : x.born = e.born
  · simp [hx]
  · simp [hx]

/-- Two entries of the map: one stamp just if one key. -/
theorem born_key {es : Array MapEntry} (K : KeyLaw P k enc) (hp : es.toList.map (fun e => (e.key, e.val)) = L.map (fun p => (enc p.1, encV p.2))) (hn : (L.map (·.1)).Nodup) (hs : (es.toList.map (·.born)).Pairwise (· < ·))
    {x y : MapEntry} (hx : x ∈ es.toList) (hy : y ∈ es.toList) : x.born = y.born ↔ x.key = y.key := by
  have hbn : (es.toList.map (·.born)).Nodup := hs.imp (fun h => Nat.ne_of_lt h)
  have hkn : (es.toList.map (·.key)).Nodup := by
    have : es.toList.map (·.key) = (L.map (·.1)).map enc := by
      have := congrArg (List.map Prod.fst) hp
      simpa [List.map_map, Function.comp_def] using this
    rw [this]
    exact List.Pairwise.map enc (fun a b hab e => hab (K.inj _ _ e)) hn
  obtain ⟨i, hi⟩ := List.getElem?_of_mem hx
  obtain ⟨j, hj⟩ := List.getElem?_of_mem hy
  have hil := (List.getElem?_eq_some_iff.1 hi).1
  have hjl := (List.getElem?_eq_some_iff.1 hj).1
  constructor
  · intro h
    have : (es.toList.map (·.born))[i]? = (es.toList.map (·.born))[j]? := by simp [List.getElem?_map, hi, hj, h]
    have := (List.getElem?_inj (by simpa using hil) hbn).1 this
    subst this
    rw [hi] at hj; cases hj; rfl
  · intro h
    have : (es.toList.map (·.key))[i]? = (es.toList.map (·.key))[j]? := by simp [List.getElem?_map, hi, hj, h]
    have := (List.getElem?_inj (by simpa using hil) hkn).1 this
    subst this
    rw [hi] at hj; cases hj; rfl

theorem map_filter_key (K : KeyLaw P k enc) {l : List MapEntry} {M : List (α × β)} (h : l.map (fun e => (e.key, e.val)) = M.map (fun p => (enc p.1, encV p.2))) (x : α) (f : MapEntry → Bool) (hf : ∀ e ∈ l, (f e = true ↔ e.key ≠ enc x)) :
    (l.filter f).map (fun e => (e.key, e.val)) = (erase M x).map (fun p => (enc p.1, encV p.2)) := by
  induction l generalizing M with
  | nil => cases M with
    | nil => rfl
    | cons _ _ => simp at h
  | cons a l ih => cases M with
    | nil => simp at h
    | cons p M =>
      simp only [List.map_cons, List.cons.injEq, Prod.mk.injEq] at h
      have hfa := hf a (by simp)
      have ih' := ih h.2 (fun e he => hf e (by simp [he]))
      unfold erase at ih' ⊢
      by_cases hx : p.1 = x
      · have : f a = false := by rw [← Bool.not_eq_true, hfa]; simp [h.1.1, hx]
        simp only [List.filter_cons, this, Bool.false_eq_true, if_false, hx, ne_eq, not_true, decide_false]
        exact ih'
      · have hne : enc p.1 ≠ enc x := fun e => hx (K.inj _ _ e)
        have : f a = true := by rw [hfa, h.1.1]; exact hne
        simp only [List.filter_cons, this, if_true, List.map_cons, hx, ne_eq, not_false_eq_true, decide_true, h.1.1, h.1.2]
        rw [ih']

/-- The step. -/
theorem IterIs.run_next (h : IterIs enc encV w m r L todo) (K : KeyLaw P k enc) (ty : TypeId) :
    (todo = [] ∧ (Instr.next (.pointer (some ⟨r, 0, none⟩)) false ty).run P w = .ok (.tuple #[.bool false]) w) ∨
    ∃ p w', p ∈ todo ∧ (Instr.next (.pointer (some ⟨r, 0, none⟩)) false ty).run P w = .ok (.tuple #[.bool true, enc p.1, encV p.2]) w' ∧ IterIs enc encV w' m r L (erase todo p.1) ∧
      Fr [r] w w' ∧ w'.heap.size = w.heap.size ∧ (Instr.entry (.pointer (some ⟨r, 0, none⟩))).run P w' = .ok (.tuple #[enc p.1, encV p.2]) w' := by
  have hne := h.ne
  obtain ⟨es, clk, since, seen, c0, hb, hp, hn, hs, hc, hr, hold, h1, h2, ht⟩ := h
  rcases run_next_at (P := P) w ty r m since c0 seen es clk hr hb hold h1 with ⟨h0, hrun⟩ | ⟨e, he, w0, hal, hrun⟩
  · refine .inl ⟨?_, hrun⟩
    have hl : (es.toList.filter (fun e => !seen.contains e.born)).length = 0 := by
      have : (leftOf es seen).toList = es.toList.filter (fun e => !seen.contains e.born) := by simp [leftOf]
      rw [← this]; simpa using h0
    have hl0 := congrArg List.length ht
    simp only [List.length_map, hl] at hl0
    exact List.eq_nil_of_length_eq_zero hl0.symm
  · have he' : e ∈ es.toList.filter (fun e => !seen.contains e.born) := by
      have : (leftOf es seen).toList = es.toList.filter (fun e => !seen.contains e.born) := by simp [leftOf]
      rwa [this] at he
    have hes : e ∈ es.toList := (List.mem_filter.1 he').1
    have : (e.key, e.val) ∈ todo.map (fun p => (enc p.1, encV p.2)) := by rw [← ht]; exact List.mem_map.2 ⟨e, he', rfl⟩
    obtain ⟨p, hpt, hpe⟩ := List.mem_map.1 this
    simp only [Prod.mk.injEq] at hpe
    have hh0 : w0.heap = w.heap := by rcases hal with rfl | rfl <;> rfl
    have hrl : r < w0.heap.size := by rw [hh0]; exact heap_lt hr
    have hbr : (ChangeMaps.setBlock w0 r (.mapIter (some m) since (seen.push e.born) clk)).heap[r]? = some (.mapIter (some m) since (seen.push e.born) clk) := by
      simp [ChangeMaps.setBlock, hrl]
    have hbm : (ChangeMaps.setBlock w0 r (.mapIter (some m) since (seen.push e.born) clk)).heap[m]? = some (.map es clk) := by
      simp [ChangeMaps.setBlock, hne, hh0, hb]
    refine .inr ⟨p, _, hpt, by rw [hrun, hpe.1, hpe.2], ⟨es, clk, since, _, clk, hbm, hp, hn, hs, hc, hbr, hold, h2, h2, ?_⟩, ?_, by simp [ChangeMaps.setBlock, hh0], ?_⟩
    · rw [filter_push]
      refine map_filter_key K ht p.1 _ fun x hx => ?_
      have := born_key K hp hn hs (List.mem_filter.1 hx).1 hes
      rw [hpe.1, decide_eq_true_eq]
      exact not_congr this
    · have f0 : Fr [r] w w0 := by
        rcases hal with rfl | rfl
        · exact Fr.refl _ _
        · exact (Fr.refl _ _).drew
      exact f0.setBlock (by simp) _
    · rw [hpe.1, hpe.2]
      exact run_entry_at _ r m since seen es clk e hbr hbm hes (hs.imp (fun h => Nat.ne_of_lt h))

/-- delete(m, x) while the range is under way. -/
theorem IterIs.run_delete (h : IterIs enc encV w m r L todo) (K : KeyLaw P k enc) {t e ty : TypeId} (ht : P.underlying t = some (.map k e)) (x : α) :
    ∃ w', (Builtin.delete_ #[t, k] ty #[.map (some m), enc x]).run P w = .ok (.tuple #[]) w' ∧ IterIs enc encV w' m r (erase L x) (erase todo x) ∧ Fr [m] w w' ∧ w'.heap.size = w.heap.size := by
  have hne := h.ne
  obtain ⟨es, clk, hb, hp, hn, hs, hc, hf⟩ := h.map.run_find K x
  obtain ⟨es', clk', since, seen, c0, hb', _, _, _, _, hr, hold, h1, h2, htd⟩ := h
  rw [hb] at hb'
  obtain ⟨rfl, rfl⟩ : es = es' ∧ clk = clk' := by injection hb' with hb'; injection hb' with e1 e2; exact ⟨e1, e2⟩
  have hcheck := K.check x es.isEmpty w
  rcases hf with ⟨hl, hall, hrun⟩ | ⟨j, e0, p, hj, hL, hpx, hke, hv, hl, hrun⟩
  · refine ⟨ChangeMaps.setBlock w m (.map es clk), ?_, ?_, (Fr.refl [m] w).setBlock (by simp) _, by simp [ChangeMaps.setBlock]⟩
    · simp [Builtin.delete_, run_underlying ht, MapKept.run_getObj_map hb, Result.andThen, hcheck, hrun w, MapKept.run_setObj_map _ hb, ChangeMaps.setBlock]
    · have e1 : erase L x = L := List.filter_eq_self.2 fun p hp => by simpa using hall p hp
      have e2 : erase todo x = todo := List.filter_eq_self.2 fun p hpt => by
        have : (enc p.1, encV p.2) ∈ (es.toList.filter (fun e => !seen.contains e.born)).map (fun e => (e.key, e.val)) := by rw [htd]; exact List.mem_map.2 ⟨p, hpt, rfl⟩
        obtain ⟨y, hy, hye⟩ := List.mem_map.1 this
        have : (y.key, y.val) ∈ L.map (fun p => (enc p.1, encV p.2)) := by rw [← hp]; exact List.mem_map.2 ⟨y, (List.mem_filter.1 hy).1, rfl⟩
        obtain ⟨q, hq, hqe⟩ := List.mem_map.1 this
        have : p.1 = q.1 := K.inj _ _ (by simp only [Prod.mk.injEq] at hqe hye; exact (hye.1.symm.trans hqe.1.symm))
        simpa [this] using hall q hq
      rw [e1, e2]
      refine ⟨es, clk, since, seen, c0, ChangeMaps.heap_setBlock_same hb _, hp, hn, hs, hc, ?_, hold, h1, h2, htd⟩
      rw [ChangeMaps.heap_setBlock_other hb _ hne]; exact hr
  · obtain ⟨w', hd, hm, hfr, hsz⟩ := MapIs.run_delete (ty := ty) (⟨es, clk, hb, hp, hn, hs, hc⟩ : MapIs enc encV w m L) K ht x
    have hsh : w' = ChangeMaps.setBlock w m (.map (es.eraseIdxIfInBounds j) clk) := by
      have : (Builtin.delete_ #[t, k] ty #[.map (some m), enc x]).run P w = .ok (.tuple #[]) (ChangeMaps.setBlock w m (.map (es.eraseIdxIfInBounds j) clk)) := by
        simp [Builtin.delete_, run_underlying ht, MapKept.run_getObj_map hb, Result.andThen, hcheck, hrun w, MapKept.run_setObj_map _ hb, ChangeMaps.setBlock]
      rw [hd] at this; injection this
    refine ⟨w', hd, ?_, hfr, hsz⟩
    obtain ⟨es2, clk2, hb2, hp2, hn2, hs2, hc2⟩ := hm
    have hb3 : w'.heap[m]? = some (.map (es.eraseIdxIfInBounds j) clk) := by rw [hsh]; exact ChangeMaps.heap_setBlock_same hb _
    rw [hb3] at hb2
    obtain ⟨rfl, rfl⟩ : es.eraseIdxIfInBounds j = es2 ∧ clk = clk2 := by injection hb2 with hb2; injection hb2 with e1 e2; exact ⟨e1, e2⟩
    refine ⟨_, _, since, seen, c0, hb3, hp2, hn2, hs2, hc2, ?_, ?_, h1, h2, ?_⟩
    · rw [hsh, ChangeMaps.heap_setBlock_other hb _ hne]; exact hr
    · intro y hy
      rw [mem_toList_eraseIdx] at hy
      exact hold y (List.mem_of_mem_eraseIdx hy)
    · have hkn : ∀ i d, i ≠ j → es.toList[i]? = some d → d.key ≠ enc x := fun i d hij hi hdx => hij (by
        obtain ⟨q, hLq, hkq, _⟩ := pair_at hp hi
        have hqx : q.1 = x := K.inj _ _ (hkq.symm.trans hdx)
        have a1 : (L.map (·.1))[j]? = some x := by simp [hL, hpx]
        have a2 : (L.map (·.1))[i]? = some x := by simp [hLq, hqx]
        exact ((List.getElem?_inj (by simpa using (List.getElem?_eq_some_iff.1 hL).1) hn).1 (a1.trans a2.symm)).symm)
      obtain ⟨F, hF⟩ : ∃ F : MapEntry → Bool, ∀ e, F e = true ↔ e.key ≠ enc x := ⟨fun e => @decide (e.key ≠ enc x) (Classical.propDecidable _), fun e => by simp⟩
      have e1 : (es.eraseIdxIfInBounds j).toList = es.toList.filter F := by
        rw [mem_toList_eraseIdx]
        exact eraseIdx_eq_filter _ _ j e0 hj (by rw [← Bool.not_eq_true, hF]; simp [hke]) fun i d hij hi => (hF d).2 (hkn i d hij hi)
      rw [e1, List.filter_filter]
      have e2 : es.toList.filter (fun a => (!seen.contains a.born) && F a) = (es.toList.filter (fun e => !seen.contains e.born)).filter F := by
        rw [List.filter_filter]; congr 1; funext a; rw [Bool.and_comm]
      rw [e2]
      exact map_filter_key K htd x _ fun e _ => hF e
end

/-! ### The laws at the operations -/
section
variable {P : Program} {α β : Type} [DecidableEq α] {enc : α → Value} {encV : β → Value} {w : World} {m r : Nat} {L todo : List (α × β)} {k : TypeId}
  {ops : Array Oper} {rest : List Oper} {o : Oper} {a : Act} {Q : Exit → Act → World → Prop}

theorem wpList_range_is (hg : o.guard = none) (x : Operand) (t e : TypeId) (hop : o.op = Op.range t x) (ht : P.underlying t = some (.map k e)) (hx : a.eval x = .map (some m)) (h : MapIs enc encV w m L)
    (hK : ∀ w', IterIs enc encV w' m w.heap.size L L → Grew w w' → w'.heap.size = w.heap.size + 1 → wpList P ops Q rest (a.put o.dst (.pointer (some ⟨w.heap.size, 0, none⟩))) w') : wpList P ops Q (o :: rest) a w := by
  refine wpList_plain hg fun K' hK' => ?_
  obtain ⟨w', hrun, h1, h2, h3⟩ := h.run_range ht
  unfold Oper.wp
  simp [execOp, hop, hx, hrun, Result.andThen]
  exact hK' _ _ (hK w' h1 h2 h3)
theorem wpList_next_is (hg : o.guard = none) (it : Operand) (hop : o.op = Op.next it false) (K : KeyLaw P k enc) (hit : a.eval it = .pointer (some ⟨r, 0, none⟩)) (h : IterIs enc encV w m r L todo)
    (hDone : todo = [] → wpList P ops Q rest (a.put o.dst (.tuple #[.bool false])) w)
    (hMore : ∀ p w', p ∈ todo → IterIs enc encV w' m r L (erase todo p.1) → Fr [r] w w' → w'.heap.size = w.heap.size → (Instr.entry (.pointer (some ⟨r, 0, none⟩))).run P w' = .ok (.tuple #[enc p.1, encV p.2]) w' →
      wpList P ops Q rest (a.put o.dst (.tuple #[.bool true, enc p.1, encV p.2])) w') : wpList P ops Q (o :: rest) a w := by
  refine wpList_plain hg fun K' hK' => ?_
  unfold Oper.wp
  rcases h.run_next K o.type with ⟨h0, hrun⟩ | ⟨p, w', hp, hrun, h1, h2, h3, h4⟩
  · simp [execOp, hop, hit, hrun, Result.andThen]
    exact hK' _ _ (hDone h0)
  · simp [execOp, hop, hit, hrun, Result.andThen]
    exact hK' _ _ (hMore p w' hp h1 h2 h3 h4)

/-- append of ONE element that the statement has just laid (in block g). -/
theorem wpList_append_one {o : Oper} (hgd : o.guard = none) (s x : Operand) (t : TypeId) (ho : o.op = .call { callee := .builtin .append, args := #[s, x], argTypes := #[t, t] })
    (base : Nat) (e : TypeId) (z : Value) (size bytes : Nat) (ht : P.underlying t = some (.slice e)) (hi : (P.info? e).map (fun i => (i.zero, i.size, i.bytes)) = some (some z, size, bytes))
    (hzs : z.cells.size = size) (hsz : 0 < size) (v : Value) (n : Nat) (xs : List Value) (hs : a.eval s = v) (hown : w.ownsRow base e size v n xs)
    (g : Nat) (cs : Array Value) (e' : TypeId) (hx : a.eval x = .slice (some ⟨g, 0, none⟩) 1 1) (hgb : w.heap[g]? = some (.cells cs e' (0, 0))) (hcs : cs.size = size) (h1 : ∀ u ∈ cs.toList, u.oneCell' = true)
    (h63 : n + 1 ≤ maxLen) (hbytes : (n + 1) * bytes ≤ 140737488355328) (hbase : base ≤ w.heap.size)
    (h : ∀ v' w', w'.ownsRow base e size v' (n + 1) (xs ++ cs.toList) → w.grownBy w' v.ownBlock → wpList P ops Q rest (a.put o.dst v') w') :
    wpList P ops Q (o :: rest) a w := by
  obtain ⟨i0, hi0, hz0, hz1, hz2⟩ := info_parts hi
  refine wpList_append_own w hgd s x t ho base e i0 z size bytes ht hi0 hz0 hz1 hz2 hzs hsz v n xs hs hown ⟨g, 0, none⟩ 1 1 cs.toList hx (by simp [hcs]) ?_ h1 h63 hbytes hbase (fun v' w' h2 h3 _ => h v' w' h2 h3)
  intro j u hu
  have hadd : (⟨g, 0, none⟩ : Addr).add j = ⟨g, j, none⟩ := by unfold Addr.add; split <;> simp_all
  rw [hadd, cell_of_row _ _ _ cs e' (0, 0) hgb]
  simpa using hu
end

theorem heap_alloc_at {w : World} {o : Obj} {g : Nat} (h : g = w.heap.size) : (w.alloc o).heap[g]? = some o := by subst h; exact heap_alloc_new w o
theorem own_drewN {w : World} {base : Nat} {e : TypeId} {size n : Nat} {v : Value} {xs : List Value} (h : w.ownsRow base e size v n xs) (k : Nat) : (w.drewN k).ownsRow base e size v n xs := h
/-- What an append into a row of the call's own does to the frame. -/
theorem Fr.appended {S : List Nat} {W w w' : World} {v : Value} {base : Nat} {e : TypeId} {size n : Nat} {xs : List Value} (hf : Fr S W w) (hown : w.ownsRow base e size v n xs) (hb : W.heap.size ≤ base) (hg : w.grownBy w' v.ownBlock) : Fr S W w' := by
  refine hf.trans (T := v.ownBlock.toList) (Fr.of_grown hg fun k hk _ => by simp [hk]) fun k hk hlt => ?_
  have := (hown.lt k (by simpa using hk)).1
  omega
theorem MapIs.appended {α β : Type} {enc : α → Value} {encV : β → Value} {m : Nat} {L : List (α × β)} {w w' : World} {v : Value} (h : MapIs enc encV w m L) (hne : v.ownBlock ≠ some m) (hg : w.grownBy w' v.ownBlock) : MapIs enc encV w' m L :=
  h.kept (hg.block m h.lt (fun e => hne e.symm))
theorem IterIs.appended {α β : Type} [DecidableEq α] {enc : α → Value} {encV : β → Value} {m r : Nat} {L todo : List (α × β)} {w w' : World} {v : Value} (h : IterIs enc encV w m r L todo) (hne : v.ownBlock ≠ some m) (hne' : v.ownBlock ≠ some r)
    (hg : w.grownBy w' v.ownBlock) : IterIs enc encV w' m r L todo :=
  h.kept (hg.block m h.map.lt (fun e => hne e.symm)) (hg.block r h.lt (fun e => hne' e.symm))
theorem own_slice {w : World} {base : Nat} {e : TypeId} {size n : Nat} {v : Value} {xs : List Value} (h : w.ownsRow base e size v n xs) : ∃ A c, v = .slice A n c ∧ n ≤ c := by
  rcases h.2 with ⟨rfl, rfl⟩ | ⟨g, cap, cur, rfl, _, _, hc, _⟩
  · exact ⟨none, 0, rfl, Nat.le_refl _⟩
  · exact ⟨_, _, rfl, hc⟩
theorem own_fr {w w' : World} {base : Nat} {e : TypeId} {size n : Nat} {v : Value} {xs : List Value} {S : List Nat} (h : w.ownsRow base e size v n xs) (hf : Fr S w w') (hn : ∀ g, v.ownBlock = some g → g ∉ S) : w'.ownsRow base e size v n xs := by
  refine ⟨h.1, ?_⟩
  rcases h.2 with hh | ⟨g, cap, cur, rfl, hb, hg, rest⟩
  · exact .inl hh
  · exact .inr ⟨g, cap, cur, rfl, hb, hf.at_ hg (hn g rfl), rest⟩
/-- A row and a map, a row and an iterator, do not share a block. -/
theorem own_ne_map {α β : Type} {enc : α → Value} {encV : β → Value} {w : World} {m : Nat} {L : List (α × β)} {v : Value} {base : Nat} {e : TypeId} {size n : Nat} {xs : List Value} (hown : w.ownsRow base e size v n xs) (h : MapIs enc encV w m L) : v.ownBlock ≠ some m := by
  obtain ⟨es, clk, hb, _⟩ := h
  rcases hown.2 with ⟨rfl, _⟩ | ⟨g, cap, cur, rfl, _, hg, _⟩
  · simp [Value.ownBlock]
  · intro he
    have : g = m := by simpa [Value.ownBlock] using he
    subst this
    rw [hb] at hg; cases hg
theorem own_ne_iter {α β : Type} [DecidableEq α] {enc : α → Value} {encV : β → Value} {w : World} {m r : Nat} {L todo : List (α × β)} {v : Value} {base : Nat} {e : TypeId} {size n : Nat} {xs : List Value} (hown : w.ownsRow base e size v n xs) (h : IterIs enc encV w m r L todo) : v.ownBlock ≠ some r := by
  obtain ⟨es, clk, since, seen, c0, _, _, _, _, _, hr, _⟩ := h
  rcases hown.2 with ⟨rfl, _⟩ | ⟨g, cap, cur, rfl, _, hg, _⟩
  · simp [Value.ownBlock]
  · intro he
    have : g = r := by simpa [Value.ownBlock] using he
    subst this
    rw [hr] at hg; cases hg
end Go.Proofs.Ytmlelggakadpdaa
