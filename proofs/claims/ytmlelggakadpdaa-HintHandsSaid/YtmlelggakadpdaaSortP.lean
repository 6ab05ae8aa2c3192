/-
  slices.SortFunc at points by the program's order: that the order is total, and what the call leaves in a row of the caller's own.
-/
import Derived.Test.YtmlelggakadpdaaCmp
import Derived.Test.YtmlelggakadpdaaPtL
import Derived.Test.YtmlelggakadpdaaLibI
namespace Go.Proofs.Ytmlelggakadpdaa
open Go.RowKit
open Go.Sort (flatK get_flatK HoldsK putRowK)

/-- A comparing function that orders. -/
structure GoodC {α : Type} (c : α → α → Int) : Prop where
  sw : ∀ x y, c y x = - c x y
  tr : ∀ x y z, c x y ≤ 0 → c y z ≤ 0 → c x z ≤ 0
  eqv : ∀ x y z, c x y = 0 → c x z = c y z
def lexC {α : Type} (c d : α → α → Int) (x y : α) : Int := if c x y ≠ 0 then c x y else d x y
theorem GoodC.self {α : Type} {c : α → α → Int} (h : GoodC c) (x : α) : c x x = 0 := by have := h.sw x x; omega
theorem GoodC.eqv' {α : Type} {c : α → α → Int} (h : GoodC c) (x y z : α) (e : c y z = 0) : c x z = c x y := by
  have h1 := h.eqv y z x e
  have h2 := h.sw x y; have h3 := h.sw x z
  omega
theorem GoodC.lt {α : Type} {c : α → α → Int} (h : GoodC c) (x y z : α) (h1 : c x y ≤ 0) (h2 : c y z ≤ 0) (h3 : c x y < 0 ∨ c y z < 0) : c x z < 0 := by
  have h4 := h.tr x y z h1 h2
  rcases Int.lt_or_eq_of_le h4 with h5 | h5
  · exact h5
  · have h6 := h.eqv x z y h5
    have h7 := h.sw y z
    omega
theorem GoodC.lex {α : Type} {c d : α → α → Int} (h : GoodC c) (k : GoodC d) : GoodC (lexC c d) where
  sw x y := by
    have h1 := h.sw x y; have h2 := k.sw x y
    unfold lexC
    split <;> split <;> omega
  tr x y z h1 h2 := by
    unfold lexC at *
    by_cases e1 : c x y = 0
    · have e3 := h.eqv x y z e1
      by_cases e2 : c y z = 0
      · rw [if_neg (by omega)] at h1 h2 ⊢
        exact k.tr x y z h1 h2
      · rw [if_pos e2] at h2
        rw [if_pos (by omega)]; omega
    · rw [if_pos e1] at h1
      by_cases e2 : c y z = 0
      · have e3 := h.eqv' x y z e2
        rw [if_pos (by omega)]; omega
      · rw [if_pos e2] at h2
        have := h.lt x y z h1 h2 (by omega)
        rw [if_pos (by omega)]; omega
  eqv x y z e := by
    unfold lexC at *
    by_cases e1 : c x y = 0
    · rw [if_neg (by omega)] at e
      have e3 := h.eqv x y z e1
      have e4 := k.eqv x y z e
      rw [e3, e4]
    · rw [if_pos e1] at e; exact absurd e e1
theorem goodI {α : Type} (f : α → Int) : GoodC (fun x y => cmpI (f x) (f y)) where
  sw x y := by simp only [cmpI]; split <;> split <;> omega
  tr x y z h1 h2 := by simp only [cmpI] at *; (repeat' split at h1) <;> (repeat' split at h2) <;> (repeat' split) <;> omega
  eqv x y z e := by
    have : f x = f y := by simp only [cmpI] at e; (repeat' split at e) <;> omega
    show cmpI _ _ = cmpI _ _
    rw [this]
theorem cmpS_lt (a b : ByteArray) : cmpS a b < 0 ↔ sless a b = true := by
  unfold cmpS
  split
  · simp [*]
  · split <;> simp [*]
theorem cmpS_zero (a b : ByteArray) : cmpS a b = 0 ↔ a = b := by
  unfold cmpS
  constructor
  · intro h
    split at h
    · omega
    · split at h
      · omega
      · exact sless_total (by simpa using ‹¬sless a b = true›) (by simpa using ‹¬sless b a = true›)
  · rintro rfl
    simp [sless_irrefl]
theorem cmpS_sw (a b : ByteArray) : cmpS b a = - cmpS a b := by
  unfold cmpS
  cases h1 : sless a b <;> cases h2 : sless b a
  · simp
  · simp
  · simp
  · rw [sless_asymm h1] at h2; cases h2
theorem cmpS_le (a b : ByteArray) : cmpS a b ≤ 0 ↔ sless b a = false := by
  have := cmpS_sw a b
  have h := cmpS_lt b a
  cases hb : sless b a
  · have : ¬ cmpS b a < 0 := fun e => by rw [h.1 e] at hb; cases hb
    simp; omega
  · have := h.2 hb
    simp; omega
theorem goodS {α : Type} (f : α → ByteArray) : GoodC (fun x y => cmpS (f x) (f y)) where
  sw x y := cmpS_sw _ _
  tr x y z h1 h2 := by
    simp only [cmpS_le] at *
    cases h : sless (f z) (f x)
    · rfl
    · -- z < x, y not < x, z not < y
      by_cases e : f x = f y
      · rw [e] at h; rw [h] at h2; cases h2
      · have : sless (f x) (f y) = true := by
          cases hxy : sless (f x) (f y)
          · exact absurd (sless_total hxy h1) e
          · rfl
        rw [sless_trans h this] at h2; cases h2
  eqv x y z e := by
    have := (cmpS_zero _ _).1 e
    show cmpS _ _ = cmpS _ _
    rw [this]
theorem cmpSt_lex (c1 i1 q1 c2 i2 q2 : Int) : cmpSt c1 i1 q1 c2 i2 q2 = if cmpI c1 c2 ≠ 0 then cmpI c1 c2 else if cmpI i1 i2 ≠ 0 then cmpI i1 i2 else cmpI q1 q2 := by
  unfold cmpSt stLess cmpI
  by_cases hc : c1 = c2
  · subst hc
    by_cases hi : i1 = i2
    · subst hi; simp
    · have hi' : ¬ i2 = i1 := fun e => hi e.symm
      rcases Int.lt_or_gt_of_ne hi with h | h
      · simp [hi, hi', h]
      · have h' : ¬ i1 < i2 := by omega
        simp [hi, hi', h, h']
  · have hc' : ¬ c2 = c1 := fun e => hc e.symm
    rcases Int.lt_or_gt_of_ne hc with h | h
    · simp [hc, hc', h]
    · have h' : ¬ c1 < c2 := by omega
      simp [hc, hc', h, h']
theorem goodSt {α : Type} (f g k : α → Int) : GoodC (fun x y : α => cmpSt (f x) (g x) (k x) (f y) (g y) (k y)) := by
  have := (goodI f).lex ((goodI g).lex (goodI k))
  have e : (fun x y : α => cmpSt (f x) (g x) (k x) (f y) (g y) (k y)) = lexC (fun x y => cmpI (f x) (f y)) (lexC (fun x y => cmpI (g x) (g y)) (fun x y => cmpI (k x) (k y))) := by
    funext x y
    rw [cmpSt_lex]; rfl
  rw [e]; exact this
theorem orI_lex (a b c d : Int) : orI [a, b, c, d] = if a ≠ 0 then a else if b ≠ 0 then b else if c ≠ 0 then c else d := by
  unfold orI
  by_cases ha : a = 0 <;> by_cases hb : b = 0 <;> by_cases hc : c = 0 <;> by_cases hd : d = 0 <;> simp [List.find?, ha, hb, hc, hd]

/-- The order of hints, of two points. -/
def ordP (x y : Pt) : Int := ordI x.s x.t x.v x.c x.i x.q y.s y.t y.v y.c y.i y.q
theorem goodP : GoodC ordP := by
  have := (goodS Pt.s).lex ((goodI Pt.t).lex ((goodSt Pt.c Pt.i Pt.q).lex (goodI Pt.v)))
  have e : ordP = lexC (fun x y : Pt => cmpS x.s y.s) (lexC (fun x y => cmpI x.t y.t) (lexC (fun x y => cmpSt x.c x.i x.q y.c y.i y.q) (fun x y => cmpI x.v y.v))) := by
    funext x y
    unfold ordP ordI
    rw [orI_lex]; rfl
  rw [e]; exact this
theorem cmpI_zero (a b : Int) : cmpI a b = 0 ↔ a = b := by unfold cmpI; (repeat' split) <;> omega
theorem ordP_zero (x y : Pt) : ordP x y = 0 ↔ x = y := by
  constructor
  · intro h
    unfold ordP ordI at h
    rw [orI_lex] at h
    have h1 : cmpS x.s y.s = 0 := by (repeat' split at h) <;> omega
    rw [if_neg (by omega)] at h
    have h2 : cmpI x.t y.t = 0 := by (repeat' split at h) <;> omega
    rw [if_neg (by omega)] at h
    have h3 : cmpSt x.c x.i x.q y.c y.i y.q = 0 := by (repeat' split at h) <;> omega
    rw [if_neg (by omega)] at h
    rw [cmpSt_lex] at h3
    have h4 : cmpI x.c y.c = 0 := by (repeat' split at h3) <;> omega
    rw [if_neg (by omega)] at h3
    have h5 : cmpI x.i y.i = 0 := by (repeat' split at h3) <;> omega
    rw [if_neg (by omega)] at h3
    rw [cmpS_zero] at h1
    rw [cmpI_zero] at h h2 h3 h4 h5
    exact (Pt.ext_iff' x y).2 ⟨h1, h2, h, h4, h5, h3⟩
  · rintro rfl; exact goodP.self x
def ltP (x y : Pt) : Bool := decide (ordP x y < 0)
theorem swoP : Sort.SWO (ltOf ordP) where
  irrefl x := by simp [ltOf, goodP.self]
  trans x y z h1 h2 := by simp [ltOf] at *; exact goodP.lt x y z (by omega) (by omega) (by omega)
  ntrans x y z h1 h2 := by
    simp [ltOf] at *
    have a := goodP.sw x y; have b := goodP.sw y z; have c := goodP.sw x z
    have := goodP.tr z y x (by omega) (by omega)
    omega
theorem totP (x y : Pt) (h1 : ltOf ordP x y = false) (h2 : ltOf ordP y x = false) : x = y := by
  simp [ltOf] at *
  have a := goodP.sw x y
  exact (ordP_zero x y).1 (by omega)

/-- Points in the program's order. -/
def sortP (l : List Pt) : List Pt := l.mergeSort fun x y => !(ltOf ordP) y x

theorem flatK_pts (d : Array Pt) : (flatK Pt.cells 6 d).toList = ptCells d.toList := by
  apply List.ext_getElem?
  intro t
  by_cases ht : t < d.size * 6
  · have hs : t / 6 < d.size := by omega
    have hp : d.toList[t / 6]? = some d[t / 6] := by simp [hs]
    have hm : t % 6 < 6 := Nat.mod_lt _ (by omega)
    have e : t = t / 6 * 6 + t % 6 := by omega
    have h1 := ptCells_at hp (t % 6) hm
    rw [← e] at h1
    rw [h1, Array.getElem?_toList]
    have hsz : (flatK Pt.cells 6 d).size = d.size * 6 := by simp [flatK]
    rw [Array.getElem?_eq_getElem (by omega)]
    have h2 := get_flatK Pt.cells 6 d t ht
    rw [getElem!_pos _ t (by omega)] at h2
    rw [h2, getElem!_pos d (t / 6) hs, List.getElem?_eq_getElem (by simpa [Pt.cells] using hm), getElem!_pos _ (t % 6) (by simpa [Pt.cells] using hm)]
  · have hsz : (flatK Pt.cells 6 d).size = d.size * 6 := by simp [flatK]
    rw [Array.getElem?_toList, Array.getElem?_eq_none (by omega), List.getElem?_eq_none (by rw [length_ptCells]; simpa using ht)]

theorem grown_sortK {w : World} {g n : Nat} {os : Array Obj} (d : Array Value) : w.grownBy (Sort.grow (Sort.putRow id (Sort.ahead w n) g 0 d) os) (some g) := by
  refine ⟨rfl, rfl, rfl, by simp, fun k hk hne => ?_⟩
  rw [Sort.heap_grow_old _ _ (by simpa using hk)]
  have : g ≠ k := fun e => hne (by rw [e])
  simp [Sort.putRow, Sort.mapBlock, Sort.ahead, Array.getElem?_modify, this]
theorem take_putCellsK (cur : Array Value) (ts : List Value) (h : ts.length ≤ cur.size) : (Sort.putCells id 0 ts.toArray cur).toList.take ts.length = ts := by
  apply List.ext_getElem?
  intro j
  by_cases hj : j < ts.length
  · rw [List.getElem?_take_of_lt hj, Array.getElem?_toList]
    simp [Sort.putCells, hj, show j < cur.size by omega]
  · rw [List.getElem?_take_eq_none (by omega), List.getElem?_eq_none (by omega)]
theorem own_sortK {w : World} {base g cap n q sz : Nat} {e : TypeId} {os : Array Obj} {xs ys : List Value} (h : w.ownsRow base e sz (.slice (some ⟨g, 0, none⟩) n cap) n xs) (hy : ys.length = n * sz) :
    (Sort.grow (Sort.putRow id (Sort.ahead w q) g 0 ys.toArray) os).ownsRow base e sz (.slice (some ⟨g, 0, none⟩) n cap) n ys := by
  rcases h.2 with ⟨e0, _⟩ | ⟨g', cap', cur, e0, hb, hg, hn, hm, hs, ht⟩
  · cases e0
  · injection e0 with e1 _ e3
    injection e1 with e1
    injection e1 with e1
    subst e1; subst e3
    refine ⟨hy, .inr ⟨g, cap, Sort.putCells id 0 ys.toArray cur, rfl, hb, ?_, hn, hm, by simpa [Sort.putCells] using hs, ?_⟩⟩
    · rw [Sort.heap_grow_old _ _ (by simpa using heap_lt hg)]
      simp [Sort.putRow, Sort.mapBlock, Sort.ahead, Array.getElem?_modify, hg, Sort.onCells]
    · rw [← hy]
      have := Nat.mul_le_mul_right sz hn
      exact take_putCellsK cur ys (by rw [hy, hs]; exact this)

theorem isAgg_pt (w : World) : (isAgg 31).run Try.prog w = .ok true w := by kernel_rfl
theorem sizeOf_pt (w : World) : (Go.sizeOf 31).run Try.prog w = .ok 6 w := by kernel_rfl
theorem enters_order : ∀ (args : Array Value) (w : World), (callFunc 36 args).run Try.prog w = .ok (.enter 36 args) w := enters_of Try.func36 (by kernel_rfl) rfl

theorem sortpts_any (base : Nat) (l : List Pt) (v : Value) (n : Nat) (w : World) (h : w.ownsRow base 31 6 v n (ptCells l)) (hn : n < 1000000) :
    Calls Try.prog 35 #[v, .func (.func 36) #[] #[]] w fun e w' => e = .returned (.tuple #[]) ∧ w'.ownsRow base 31 6 v n (ptCells (sortP l)) ∧ w.grownBy w' v.ownBlock := by
  have hl : l.length = n := by have := h.1; rw [length_ptCells] at this; omega
  rcases h.2 with ⟨rfl, rfl⟩ | ⟨g, cap, cur, rfl, hb, hg, hnc, hm, hs, ht⟩
  · have : l = [] := List.eq_nil_of_length_eq_zero hl
    subst this
    refine (AnyF.slices_SortFunc_none Try.sortPt none 0 _ w).mono fun e w' ⟨he, hw⟩ => ⟨he, ?_, by rw [hw]; exact World.grownBy.refl w _⟩
    rw [hw, show sortP [] = [] by simp [sortP]]; exact h
  · have hlt := heap_lt hg
    have hf := flatK_pts l.toArray
    have hH : HoldsK Pt.cells 6 w g 0 l.toArray := by
      have e : flatK Pt.cells 6 l.toArray = (ptCells l).toArray := by rw [← hf]
      unfold HoldsK
      rw [e]
      intro j hj
      have hj' : j < (ptCells l).length := by simpa using hj
      refine ⟨?_, by simp [World.frozen?, hg]⟩
      have h1 : (cur.toList.take (n * 6))[j]? = (ptCells l)[j]? := by rw [ht]
      rw [List.getElem?_take_of_lt (by rw [length_ptCells] at hj'; omega)] at h1
      simp only [World.cell?, hg, Nat.zero_add]
      simp only [Option.isSome_none, Bool.false_eq_true, if_false]
      rw [← Array.getElem?_toList, h1]
      simp [hj']
    have hcmp : CmpLays Try.prog 36 #[] Pt.cells 6 ordP g 0 l.toArray.size w := fun q os dk _ x y =>
      (order_any x.s y.s x.t x.v x.c x.i x.q y.t y.v y.c y.i y.q (sortWorldK Pt.cells 6 w g 0 q dk os)).mono fun e w' ⟨he, hw⟩ => ⟨he, hw⟩
    have hc := AnyQ.slices_SortFunc_total Try.sortPt 6 isAgg_pt sizeOf_pt Pt.cells (fun _ => rfl) (fun x u hu => by simp [Pt.cells] at hu; rcases hu with rfl | rfl | rfl | rfl | rfl | rfl <;> rfl)
      ordP swoP 36 #[] g 0 cap l.toArray w enters_order hcmp hH hlt (by simp; omega) totP
    rw [List.size_toArray, hl] at hc
    refine hc.mono fun e w' ⟨he, q, os, hw⟩ => ⟨he, ?_, ?_⟩
    · rw [hw]
      unfold sortWorldK putRowK
      have e : flatK Pt.cells 6 (sortP l).toArray = (ptCells (sortP l)).toArray := by
        have := flatK_pts (sortP l).toArray
        rw [← this]
      have e' : (l.mergeSort fun x y => !(ltOf ordP) y x) = sortP l := rfl
      show (Sort.grow (Sort.putRow id (Sort.ahead w q) g 0 (flatK Pt.cells 6 (l.mergeSort fun x y => !(ltOf ordP) y x).toArray)) os).ownsRow base 31 6 _ n _
      rw [e', e]
      exact own_sortK h (by rw [length_ptCells, sortP, List.length_mergeSort, hl])
    · rw [hw]
      exact grown_sortK _
end Go.Proofs.Ytmlelggakadpdaa
