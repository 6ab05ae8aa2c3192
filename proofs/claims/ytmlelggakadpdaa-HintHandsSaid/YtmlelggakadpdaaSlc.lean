/-
  Slices that read as lists of cells; rows that the program owns; the laws of append and of a range over a map. Nothing here speaks of the program.
-/
import Derived.Test.YtmlelggakadpdaaBase
import Derived.Laws.AppendOwnNone
namespace Go.Proofs.Ytmlelggakadpdaa
open Go.RowKit

/-! ### A slice value that reads as the cells xs, sz of them an element, below block B -/
structure Rd (w : World) (B sz : Nat) (A : Option Addr) (n : Nat) (xs : List Value) : Prop where
  len : xs.length = n * sz
  cells : 0 < n → ∃ b off, A = some ⟨b, off, none⟩ ∧ b < B ∧ ∀ j u, xs[j]? = some u → w.cell? ⟨b, off + j, none⟩ = some u

section
variable {w w' : World} {B B' sz n : Nat} {A : Option Addr} {xs : List Value} {S : List Nat}
theorem Rd.nil_ : Rd w B sz A 0 [] := ⟨by simp, fun h => absurd h (by omega)⟩
theorem Rd.keep (h : Rd w B sz A n xs) (hk : ∀ b, b < B → w'.heap[b]? = w.heap[b]?) : Rd w' B sz A n xs :=
  ⟨h.len, fun hn => by
    obtain ⟨b, off, e, hb, hc⟩ := h.cells hn
    exact ⟨b, off, e, hb, fun j u hu => (World.cell?_of_block (hk b hb)).trans (hc j u hu)⟩⟩
theorem Rd.more (h : Rd w B sz A n xs) (hB : B ≤ B') : Rd w B' sz A n xs :=
  ⟨h.len, fun hn => by
    obtain ⟨b, off, e, hb, hc⟩ := h.cells hn
    exact ⟨b, off, e, by omega, hc⟩⟩
theorem Rd.below (h : Rd w B sz A n xs) (hb : Below B w w') : Rd w' B sz A n xs := h.keep hb.block
theorem Rd.fr (h : Rd w B sz A n xs) (hf : Fr S w w') (hB : B ≤ w.heap.size) (hs : ∀ k ∈ S, B ≤ k) : Rd w' B sz A n xs := h.below (hf.below hB hs)
theorem Rd.grew (h : Rd w B sz A n xs) (hf : Grew w w') (hB : B ≤ w.heap.size) : Rd w' B sz A n xs := h.fr (hf.fr []) hB (by simp)
theorem Rd.drewN (h : Rd w B sz A n xs) (k : Nat) : Rd (w.drewN k) B sz A n xs := h.keep fun _ _ => rfl
theorem Rd.alloc (h : Rd w B sz A n xs) (hB : B ≤ w.heap.size) (o : Obj) : Rd (w.alloc o) B sz A n xs := h.fr ((Fr.refl [] w).alloc o) hB (by simp)
/-- A slice and a map do not share a block. -/
theorem Rd.fr_map (h : Rd w B sz A n xs) {m : Nat} {α β : Type} {enc : α → Value} {encV : β → Value} {L : List (α × β)} (hsz : 0 < sz) (hf : Fr [m] w w') (hm : MapIs enc encV w m L) (hB : B ≤ w.heap.size) : Rd w' B sz A n xs :=
  ⟨h.len, fun hn => by
    obtain ⟨b, off, e, hb, hc⟩ := h.cells hn
    have hbm : b ∉ [m] := fun hin => by
      have he : b = m := by simpa using hin
      obtain ⟨es, clk, hmb, _⟩ := hm
      have hl : 0 < xs.length := by rw [h.len]; exact Nat.mul_pos hn hsz
      have := hc 0 xs[0] (List.getElem?_eq_getElem hl)
      rw [he] at this
      simp [World.cell?, hmb] at this
    exact ⟨b, off, e, hb, fun j u hu => (hf.cell (a := ⟨b, off + j, none⟩) (by show b < _; omega) hbm).trans (hc j u hu)⟩⟩
theorem Rd.elem (h : Rd w B sz A n xs) {i : Nat} (hi : i < n) : ∃ b off, A = some ⟨b, off, none⟩ ∧ b < B ∧ ∀ j, j < sz → ∃ u, xs[i * sz + j]? = some u ∧ w.cell? ⟨b, off + (i * sz + j), none⟩ = some u := by
  obtain ⟨b, off, e, hb, hc⟩ := h.cells (by omega)
  refine ⟨b, off, e, hb, fun j hj => ?_⟩
  have hlt : i * sz + j < xs.length := by
    rw [h.len]
    have : (i + 1) * sz ≤ n * sz := Nat.mul_le_mul_right _ hi
    rw [Nat.add_mul] at this
    omega
  exact ⟨xs[i * sz + j], List.getElem?_eq_getElem hlt, hc _ _ (List.getElem?_eq_getElem hlt)⟩
theorem Rd.prefix_ (h : Rd w B sz A n xs) {m : Nat} (hm : m ≤ n) : Rd w B sz A m (xs.take (m * sz)) :=
  ⟨by rw [List.length_take, h.len]; have := Nat.mul_le_mul_right sz hm; omega, fun h0 => by
    obtain ⟨b, off, e, hb, hc⟩ := h.cells (by omega)
    exact ⟨b, off, e, hb, fun j u hu => hc j u (by
      rw [List.getElem?_take] at hu
      split at hu
      · exact hu
      · cases hu)⟩⟩
theorem Rd.of_own {base : Nat} {e : TypeId} {c : Nat} (h : w.ownsRow base e sz (.slice A n c) n xs) : Rd w w.heap.size sz A n xs := by
  refine ⟨h.1, fun hn => ?_⟩
  obtain ⟨g, cap, hv, _, hlt⟩ := h.form hn
  have hA : A = some ⟨g, 0, none⟩ := by injection hv
  subst hA
  refine ⟨g, 0, rfl, hlt, fun j u hu => ?_⟩
  have := h.cells (g := g) rfl j u hu
  have hadd : (⟨g, 0, none⟩ : Addr).add j = ⟨g, 0 + j, none⟩ := by unfold Addr.add; split <;> simp_all
  rwa [hadd] at this
end

theorem Rd.new_ {w : World} (cs : Array Value) (t : TypeId) (sz n : Nat) (xs : List Value) (h : cs.toList = xs) (hn : xs.length = n * sz) :
    Rd (w.alloc (.cells cs t)) (w.heap.size + 1) sz (some ⟨w.heap.size, 0, none⟩) n xs :=
  ⟨hn, fun _ => ⟨w.heap.size, 0, rfl, by omega, fun j u hu => by
    rw [cell_of_row _ _ _ cs t (0, 0) (heap_alloc_new w _)]
    rw [← h] at hu
    simpa using hu⟩⟩
/-- A slice of ints. -/
def intCells (l : List Int) : List Value := l.map (Value.int .i64)
theorem length_intCells (l : List Int) : (intCells l).length = l.length := by simp [intCells]
theorem Rd.int_at {w : World} {B n : Nat} {A : Option Addr} {l : List Int} (h : Rd w B 1 A n (intCells l)) {i : Nat} (hi : i < n) :
    ∃ b off x, A = some ⟨b, off, none⟩ ∧ b < B ∧ l[i]? = some x ∧ w.cell? ⟨b, off + i, none⟩ = some (.int .i64 x) := by
  obtain ⟨b, off, e, hb, hc⟩ := h.cells (by omega)
  have hl : i < l.length := by have := h.len; rw [length_intCells] at this; omega
  exact ⟨b, off, l[i], e, hb, List.getElem?_eq_getElem hl, hc i _ (by simp [intCells, hl])⟩
end Go.Proofs.Ytmlelggakadpdaa
