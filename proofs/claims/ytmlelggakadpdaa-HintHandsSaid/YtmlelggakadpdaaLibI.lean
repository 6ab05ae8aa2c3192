/-
  The library's contracts at ints (slices.Contains, Sort, Compact), said of slices as this seat's walks have them: 'Rd' for what is read, 'ownsRow' for a row of the call's own.
-/
import Derived.Test.YtmlelggakadpdaaOwn
import Derived.Test.YtmlelggakadpdaaPts
import Derived.Test.YtmlelggakadpdaaShelf
import Derived.Lib.OwnBridge
import Derived.Sort.OwnSortedInts
namespace Go.Proofs.Ytmlelggakadpdaa
open Go.RowKit

theorem contains_any (l : List Int) (x : Int) (n c B : Nat) (A : Option Addr) (w : World) (h : Rd w B 1 A n (intCells l)) (hn : n ≤ 9223372036854775807) :
    Calls Try.prog 31 #[.slice A n c, .int .i64 x] w fun e w' => e = .returned (.bool (decide (x ∈ l))) ∧ w = w' := by
  have hl : l.length = n := by have := h.len; simp [length_intCells] at this; exact this
  rcases Nat.eq_zero_or_pos n with h0 | h0
  · subst h0
    have : l = [] := List.eq_nil_of_length_eq_zero hl
    subst this
    exact (Try.slices_Contains_int_empty A c x w).mono fun e w' ⟨he, hw⟩ => ⟨by rw [he]; rfl, hw.symm⟩
  · obtain ⟨b, off, rfl, hb, hc⟩ := h.cells h0
    refine (Try.slices_Contains_int b off n c l x w (by omega) hn ?_).mono fun e w' ⟨he, hw⟩ => ⟨?_, hw.symm⟩
    · intro j hj
      refine hc j _ ?_
      simp [intCells, hj]
    · rw [he, List.take_of_length_le (by omega), List.contains_eq_mem]

/-- Sorted ints. -/
def sortI (l : List Int) : List Int := l.mergeSort fun x y => decide (x ≤ y)
theorem sortI_perm (l : List Int) : (sortI l).Perm l := List.mergeSort_perm _ _
theorem length_sortI (l : List Int) : (sortI l).length = l.length := (sortI_perm l).length_eq
theorem sortI_sorted (l : List Int) : (sortI l).Pairwise (· ≤ ·) := by
  have := List.pairwise_mergeSort (le := fun x y : Int => decide (x ≤ y)) (fun a b c h1 h2 => by simp at *; omega) (fun a b => by simp; omega) l
  exact this.imp (fun h => by simpa using h)

def POwnI (base : Nat) (l : List Int) (v : Value) (w w' : World) : Prop := w'.ownsRow base 3 1 v l.length (intCells l) ∧ w.grownBy w' v.ownBlock

theorem sorti_any (base : Nat) (l : List Int) (v : Value) (n : Nat) (w : World) (h : w.ownsRow base 3 1 v n (intCells l)) (hn : n < 4611686018427387904) :
    Calls Try.prog 53 #[v] w fun e w' => e = .returned (.tuple #[]) ∧ w'.ownsRow base 3 1 v n (intCells (sortI l)) ∧ w.grownBy w' v.ownBlock := by
  have hl : l.length = n := by have := h.1; simp [length_intCells] at this; exact this
  rcases h.2 with ⟨rfl, rfl⟩ | ⟨g, cap, cur, rfl, hb, hg, hnc, hm, hs, ht⟩
  · have : l = [] := List.eq_nil_of_length_eq_zero hl
    subst this
    exact (Try.slices_Sort_int_none none 0 w).mono fun e w' ⟨he, hw⟩ => ⟨he, by rw [hw, show sortI [] = [] by simp [sortI]]; exact h, by rw [hw]; exact World.grownBy.refl w _⟩
  · have hlt := heap_lt hg
    have hH : Sort.Holds (Value.int .i64) w g 0 l.toArray := holds_of_blockI hg (by rw [hl]; simpa [intCells] using ht)
    have hc := Try.slices_Sort_int g 0 cap l w hH hlt (by omega)
    rw [hl] at hc
    refine hc.mono fun e w' ⟨he, q, os, hw⟩ => ⟨he, ?_, ?_⟩
    · have := ownsRow_sortedI (w := w) (base := base) (g := g) (cap := cap) (n := q) (e := 3) (os := os) (cur := cur) (ss := l) (ts := sortI l) (length_sortI l) hb hg (by omega) hm (by omega)
      rw [hl] at this
      rw [hw]
      exact this
    · rw [hw]; exact grownBy_sortedI _

/-- Runs of equals, once. -/
def compI (l : List Int) : List Int := Lib.compact l
theorem compact_any (base : Nat) (l : List Int) (v : Value) (n : Nat) (w : World) (h : w.ownsRow base 3 1 v n (intCells l)) (hn : n < 4611686018427387904) :
    Calls Try.prog 54 #[v] w fun e w' => ∃ A c, e = .returned (.slice A (compI l).length c) ∧ w'.ownsRow base 3 1 (.slice A (compI l).length c) (compI l).length (intCells (compI l)) ∧ w.grownBy w' v.ownBlock ∧
      (Value.slice A (compI l).length c).ownBlock = v.ownBlock := by
  have hl : l.length = n := by have := h.1; simp [length_intCells] at this; exact this
  rcases h.2 with ⟨rfl, rfl⟩ | ⟨g, cap, cur, rfl, hb, hg, hnc, hm, hs, ht⟩
  · have : l = [] := List.eq_nil_of_length_eq_zero hl
    subst this
    exact (Try.slices_Compact_int_empty none 0 w).mono fun e w' ⟨he, hw⟩ => ⟨none, 0, he, by rw [hw]; exact h, by rw [hw]; exact World.grownBy.refl w _, rfl⟩
  · have hlt := heap_lt hg
    have hH : Sort.Holds (Value.int .i64) w g 0 l.toArray := holds_of_blockI hg (by rw [hl]; simpa [intCells] using ht)
    have hc := Try.slices_Compact_int g 0 cap l w hH (by omega) (by omega)
    rw [hl] at hc
    have hcl : (compI l).length ≤ n := by rw [← hl]; exact Lib.compact_length_le l
    refine hc.mono fun e w' ⟨he, q, hw⟩ => ⟨some ⟨g, 0, none⟩, cap, he, ?_, ?_, rfl⟩
    · have := Lib.ownsRow_putRow (enc := Value.int .i64) (q := q) (k := (compI l).length) (ys := compI l ++ List.replicate (n - (compI l).length) 0) h (by simp; omega) hcl
      rw [List.take_left] at this
      rw [hw]; exact this
    · rw [hw]
      refine ⟨rfl, rfl, rfl, by simp [Sort.putRow, Sort.mapBlock, Sort.ahead], fun k hk hne => ?_⟩
      have : g ≠ k := fun e => hne (by rw [e]; rfl)
      simp [Sort.putRow, Sort.mapBlock, Sort.ahead, Array.getElem?_modify, this]
end Go.Proofs.Ytmlelggakadpdaa
