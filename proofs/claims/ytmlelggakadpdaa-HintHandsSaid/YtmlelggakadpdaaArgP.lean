/-
  Arguments that are slices of ints or of points: what reads of them is a list; and each argument reads behind a call that has only laid new blocks as it read before.
-/
import Derived.Test.YtmlelggakadpdaaPost
import Derived.Test.YtmlelggakadpdaaPtL
import Derived.Carry
import Derived.Deep.Slices
namespace Go.Proofs.Ytmlelggakadpdaa
open Go.RowKit Go.WideShapes Go.ChangeShapes Go.Deep
section
variable {H : Type} {enc : TypeId × Value → H} {w : World} {base : Nat} {sp : Nat → Bool} {held : Bool}

theorem cell_off {w : World} {b off i : Nat} {u : Value} (h : w.cell? ((⟨b, off, none⟩ : Addr).add i) = some u) : w.cell? ⟨b, off + i, none⟩ = some u := by
  have hadd : (⟨b, off, none⟩ : Addr).add i = ⟨b, off + i, none⟩ := by unfold Addr.add; split <;> simp_all
  rwa [hadd] at h
theorem spot_none {w : World} {a : Addr} {u : Value} (h : w.cell? a = some u) : a = ⟨a.block, a.off, none⟩ := by
  obtain ⟨b, o, s⟩ := a
  cases s with
  | none => rfl
  | some s =>
    simp [World.cell?] at h
    split at h <;> cases h
theorem cells_pt : Try.prog.cellsOf 31 = 6 := by kernel_rfl
theorem cells_st : Try.prog.cellsOf 29 = 3 := by kernel_rfl
theorem cells_str : Try.prog.cellsOf 9 = 1 := by kernel_rfl
theorem cells_int : Try.prog.cellsOf 3 = 1 := by kernel_rfl
theorem cells_i64 : Try.prog.cellsOf 2 = 1 := by kernel_rfl

theorem len3 {α : Type} {l : List α} (h : l.length = 3) : ∃ a b c, l = [a, b, c] := by
  match l, h with
  | [a, b, c], _ => exact ⟨a, b, c, rfl⟩
theorem len4 {α : Type} {l : List α} (h : l.length = 4) : ∃ a b c d, l = [a, b, c, d] := by
  match l, h with
  | [a, b, c, d], _ => exact ⟨a, b, c, d, rfl⟩
theorem len6 {α : Type} {l : List α} (h : l.length = 6) : ∃ a b c d e f, l = [a, b, c, d, e, f] := by
  match l, h with
  | [a, b, c, d, e, f], _ => exact ⟨a, b, c, d, e, f, rfl⟩
set_option maxRecDepth 100000 in
theorem open_st {n : Nat} {cs : List Value} {x : DataW H × List MemPlace} (h : DataW.trod enc Try.prog w base sp held n 29 cs = some x) : ∃ c i q : Int, cs = [.int .i64 c, .int .i64 i, .int .i64 q] := by
  obtain ⟨xs, k, _, _, hlen, hxl, hf⟩ := DataW.trod_struct Try.underlying29 h
  rw [cells_st] at hlen
  obtain ⟨u0, u1, u2, rfl⟩ := len3 hlen
  obtain ⟨y0, y1, y2, rfl⟩ := len3 (l := xs) hxl
  have g0 := hf 0 _ rfl
  have g1 := hf 1 _ rfl
  have g2 := hf 2 _ rfl
  simp only [cells_int, List.drop_zero, List.drop_succ_cons, List.take_succ_cons, List.take_zero, List.getElem?_cons_zero, List.getElem?_cons_succ] at g0 g1 g2
  obtain ⟨c, e0, _⟩ := DataW.trod_int Try.underlying3 g0
  obtain ⟨i, e1, _⟩ := DataW.trod_int Try.underlying3 g1
  obtain ⟨q, e2, _⟩ := DataW.trod_int Try.underlying3 g2
  injection e0 with e0
  injection e1 with e1
  injection e2 with e2
  subst e0 e1 e2
  exact ⟨c, i, q, rfl⟩
set_option maxRecDepth 100000 in
theorem open_pt {n : Nat} {cs : List Value} {x : DataW H × List MemPlace} (h : DataW.trod enc Try.prog w base sp held n 31 cs = some x) : ∃ p : Pt, cs = p.cells ∧ p.s.size ≤ maxLen := by
  obtain ⟨xs, k, _, _, hlen, hxl, hf⟩ := DataW.trod_struct Try.underlying31 h
  rw [cells_pt] at hlen
  obtain ⟨u0, u1, u2, u3, u4, u5, rfl⟩ := len6 hlen
  obtain ⟨y0, y1, y2, y3, rfl⟩ := len4 (l := xs) hxl
  have g0 := hf 0 _ rfl
  have g1 := hf 1 _ rfl
  have g2 := hf 2 _ rfl
  have g3 := hf 3 _ rfl
  simp only [cells_int, cells_str, cells_i64, cells_st, List.drop_zero, List.drop_succ_cons, List.take_succ_cons, List.take_zero, List.getElem?_cons_zero, List.getElem?_cons_succ] at g0 g1 g2 g3
  obtain ⟨s, e0, _, hs⟩ := DataW.trod_string Try.underlying9 g0
  obtain ⟨t, e1, _⟩ := DataW.trod_int Try.underlying3 g1
  obtain ⟨v, e2, _⟩ := DataW.trod_int Try.underlying2 g2
  obtain ⟨c, i, q, e3⟩ := open_st g3
  injection e0 with e0
  injection e1 with e1
  injection e2 with e2
  injection e3 with e3 e4
  injection e4 with e4 e5
  injection e5 with e5
  subst e0 e1 e2 e3 e4 e5
  exact ⟨⟨s, t, v, c, i, q⟩, rfl, hs⟩

set_option maxRecDepth 100000 in
/-- A slice argument of elements that read as cells of a given form. -/
theorem open_list {α : Type} [Inhabited α] (cells : α → List Value) (sz : Nat) (hc : ∀ x, (cells x).length = sz) (hpos : 0 < sz) (good : α → Prop) {t e : TypeId} (ht : Try.prog.underlying t = some (.slice e)) (he : Try.prog.cellsOf e = sz)
    (hel : ∀ (n : Nat) (cs : List Value) (x : DataW H × List MemPlace), DataW.trod enc Try.prog w 0 (fun _ => true) true n e cs = some x → ∃ y, cs = cells y ∧ good y)
    {v : Value} {d : DataW H} {p : List MemPlace} (hv : ∃ a len cap, v = .slice a len cap) (h : DataW.Trod enc Try.prog w 0 (fun _ => true) true t v d p) :
    ∃ (A : Option Addr) (len c : Nat) (l : List α), v = .slice A len c ∧ Rd w w.heap.size sz A len (l.flatMap cells) ∧ (∀ x ∈ l, good x) ∧ l.length = len ∧ len ≤ c ∧ c ≤ maxLen := by
  obtain ⟨a, len, cap, rfl⟩ := hv
  obtain ⟨n, hn⟩ := h
  rcases open_slice ht hn with ⟨h0, _⟩ | ⟨a', len', cap', m, k, D, Pl, h0, _, hl, hm, hmm, _, hx⟩
  · simp [Value.cells] at h0
    obtain ⟨rfl, rfl, rfl⟩ := h0
    exact ⟨none, 0, 0, [], rfl, Rd.nil_, by simp, rfl, Nat.le_refl _, by omega⟩
  · simp [Value.cells] at h0
    obtain ⟨rfl, rfl, rfl⟩ := h0
    simp at hmm
    subst hmm
    rw [he] at hx
    obtain ⟨q, hq⟩ := choose_lt (α := α) (p := fun i y => (∀ j, j < sz → w.cell? ((a'.add (i * sz)).add j) = (cells y)[j]?) ∧ good y) (fun i (hi : i < len) => by
      obtain ⟨cs', h1, h2⟩ := hx i (by omega)
      obtain ⟨_, hlen, hcell⟩ := World.cells?_some h1
      obtain ⟨y, hy, hg⟩ := hel _ _ _ h2
      subst hy
      exact ⟨y, hcell, hg⟩)
    have hfl : ∀ (l : List α) (i j : Nat) (y : α), l[i]? = some y → j < sz → (l.flatMap cells)[i * sz + j]? = (cells y)[j]? := by
      intro l
      induction l with
      | nil => intro i j y hi; simp at hi
      | cons a r ih =>
        intro i j y hi hj
        cases i with
        | zero =>
          simp at hi
          subst hi
          rw [List.flatMap_cons, List.getElem?_append_left (by rw [hc]; omega)]
          simp
        | succ i =>
          rw [List.flatMap_cons, List.getElem?_append_right (by rw [hc, Nat.add_mul]; omega), hc]
          have := ih i j y (by simpa using hi) hj
          rw [← this]
          congr 1
          rw [Nat.add_mul]; omega
    have hfll : ∀ (l : List α), (l.flatMap cells).length = l.length * sz := by
      intro l
      induction l with
      | nil => simp
      | cons a r ih => rw [List.flatMap_cons, List.length_append, hc, ih, List.length_cons, Nat.add_mul]; omega
    refine ⟨some a', len, _, (List.range len).map q, rfl, ⟨by rw [hfll]; simp, fun hpos' => ?_⟩, ?_, by simp, hl, hm⟩
    · have h00 := (hq 0 hpos').1 0 hpos
      simp [Addr.add] at h00
      have hc0 : ∃ u, w.cell? a' = some u := ⟨_, h00.trans (List.getElem?_eq_getElem (by rw [hc]; exact hpos))⟩
      obtain ⟨u, hu⟩ := hc0
      have ha := spot_none hu
      refine ⟨a'.block, a'.off, by rw [← ha], World.block_lt_of_cell? w _ hu, fun j u hj => ?_⟩
      have hjl : j < len * sz := by
        have := (List.getElem?_eq_some_iff.1 hj).1
        rw [hfll] at this
        simpa using this
      have hd : j = j / sz * sz + j % sz := by rw [Nat.mul_comm]; exact (Nat.div_add_mod j sz).symm
      have hi : j / sz < len := Nat.div_lt_of_lt_mul (by rw [Nat.mul_comm]; exact hjl)
      have hr : j % sz < sz := Nat.mod_lt _ hpos
      have h1 := (hq (j / sz) hi).1 (j % sz) hr
      rw [add_add, ← hd] at h1
      have h2 := hfl ((List.range len).map q) (j / sz) (j % sz) (q (j / sz)) (by simp [hi]) hr
      rw [← hd, hj] at h2
      rw [← h2, ha] at h1
      exact cell_off h1
    · intro x hx
      obtain ⟨i, hi, rfl⟩ := List.mem_map.1 hx
      exact (hq i (by simpa using hi)).2

theorem open_pts {v : Value} {d : DataW H} {p : List MemPlace} (hv : ∃ a len cap, v = .slice a len cap) (h : DataW.Trod enc Try.prog w 0 (fun _ => true) true 22 v d p) :
    ∃ (A : Option Addr) (len c : Nat) (l : List Pt), v = .slice A len c ∧ Rd w w.heap.size 6 A len (ptCells l) ∧ (∀ x ∈ l, x.s.size ≤ maxLen) ∧ l.length = len ∧ len ≤ c ∧ c ≤ maxLen :=
  open_list Pt.cells 6 (fun _ => rfl) (by omega) (fun x => x.s.size ≤ maxLen) Try.underlying22 cells_pt (fun _ _ _ h => open_pt h) hv h
theorem flat_ints (l : List Int) : l.flatMap (fun x : Int => [Value.int .i64 x]) = intCells l := by
  unfold intCells
  induction l with
  | nil => rfl
  | cons a r ih => rw [List.flatMap_cons, ih]; rfl
theorem open_intl {v : Value} {d : DataW H} {p : List MemPlace} (hv : ∃ a len cap, v = .slice a len cap) (h : DataW.Trod enc Try.prog w 0 (fun _ => true) true 23 v d p) :
    ∃ (A : Option Addr) (len c : Nat) (l : List Int), v = .slice A len c ∧ Rd w w.heap.size 1 A len (intCells l) ∧ len ≤ c ∧ c ≤ maxLen := by
  obtain ⟨A, len, c, l, e, hr, _, _, hl, hm⟩ := open_list (fun x : Int => [Value.int .i64 x]) 1 (fun _ => rfl) (by omega) (fun _ => True) Try.underlying23 cells_int (fun n cs x h => by
    obtain ⟨k, e, _⟩ := DataW.trod_int Try.underlying3 h
    exact ⟨k, e, trivial⟩) hv h
  refine ⟨A, len, c, l, e, ?_, hl, hm⟩
  rwa [flat_ints] at hr
end

/-- An argument reads as it did behind a call that has laid new blocks only. -/
theorem trod_kept {H : Type} {enc : TypeId × Value → H} {t : TypeId} (hl : laidOutB Try.prog = true) (hr : Try.prog.readableRec t = true) (hrow : t < Try.prog.types.size) {W W' : World} {sp : Nat → Bool} {v : Value} {d : DataW H} {ps : List MemPlace}
    (h : DataW.Trod enc Try.prog W 0 (fun _ => true) true t v d ps) (hb : Below W.heap.size W W') (hlt : ∀ x ∈ ps, x.block < W.heap.size) (hsp : ∀ x ∈ ps, sp x.block = true) :
    DataW.Trod enc Try.prog W' 0 sp true t v d ps :=
  WideElems.Trod_stays hl hr hrow h (fun x hx => hb.same (hlt x hx)) hsp
theorem laid : laidOutB Try.prog = true := by kernel_rfl
end Go.Proofs.Ytmlelggakadpdaa
