/-
  How the program's order of hints tells two points apart: cmp.Compare at string, int and int64, cmp.Or, the stamps, and their sum: 'order'.
-/
import Derived.Test.YtmlelggakadpdaaOrd
import Derived.Deep.RegionHeld3
namespace Go.Proofs.Ytmlelggakadpdaa
open Go.RowKit

def orI (l : List Int) : Int := (l.find? (fun x => decide (x ≠ 0))).getD 0
def cmpSt (c1 i1 q1 c2 i2 q2 : Int) : Int := if stLess c1 i1 q1 c2 i2 q2 then -1 else if stLess c2 i2 q2 c1 i1 q1 then 1 else 0

set_option maxHeartbeats 400000 in
theorem nans_any (s : ByteArray) (w : World) : Calls Try.prog 68 #[.string s] w fun e w' => e = .returned (.bool false) ∧ w = w' := by
  go_enter Try.func68, Try.ntmps68
  go_wp2
  go_ret
  exact ⟨by simp, rfl⟩
set_option maxHeartbeats 400000 in
theorem nani_any (s : Int) (w : World) : Calls Try.prog 69 #[.int .i64 s] w fun e w' => e = .returned (.bool false) ∧ w = w' := by
  go_enter Try.func69, Try.ntmps69
  go_wp2
  go_ret
  exact ⟨by simp, rfl⟩
set_option maxHeartbeats 400000 in
theorem nanl_any (s : Int) (w : World) : Calls Try.prog 71 #[.int .i64 s] w fun e w' => e = .returned (.bool false) ∧ w = w' := by
  go_enter Try.func71, Try.ntmps71
  go_wp2
  go_ret
  exact ⟨by simp, rfl⟩

set_option maxHeartbeats 800000 in
theorem cmps_any (a b : ByteArray) (w : World) : Calls Try.prog 49 #[.string a, .string b] w fun e w' => e = .returned (.int .i64 (cmpS a b)) ∧ w = w' := by
  go_enter Try.func49, Try.ntmps49
  go_wp2_with (go_at_call 68; refine (nans_any _ _).mono ?_; rintro e w' ⟨rfl, rfl⟩)
  · go_ret
    exact ⟨by rw [cmpS, show sless a b = true from ‹_›]; rfl, rfl⟩
  · go_ret
    have h1 : sless a b = false := ‹_›
    have hne : a ≠ b := fun e => by subst e; have : (!a.toList == a.toList) = true := ‹_›; simp at this
    have h2 : sless b a = true := by
      cases h : sless b a
      · exact absurd (sless_total h1 h) hne
      · rfl
    exact ⟨by rw [cmpS, h1, h2]; rfl, rfl⟩
  · go_ret
    have h1 : sless a b = false := ‹_›
    have he : a = b := (seq_iff a b).1 (by have : (!a.toList == b.toList) = false := ‹_›; simpa [seq] using this)
    subst he
    exact ⟨by rw [cmpS, h1]; rfl, rfl⟩
set_option maxHeartbeats 800000 in
theorem cmpi_any (a b : Int) (w : World) : Calls Try.prog 50 #[.int .i64 a, .int .i64 b] w fun e w' => e = .returned (.int .i64 (cmpI a b)) ∧ w = w' := by
  go_enter Try.func50, Try.ntmps50
  go_wp2_with (go_at_call 69; refine (nani_any _ _).mono ?_; rintro e w' ⟨rfl, rfl⟩)
  all_goals
    go_ret
    refine ⟨?_, rfl⟩
    simp [cmpI]; omega
set_option maxHeartbeats 800000 in
theorem cmpl_any (a b : Int) (w : World) : Calls Try.prog 52 #[.int .i64 a, .int .i64 b] w fun e w' => e = .returned (.int .i64 (cmpI a b)) ∧ w = w' := by
  go_enter Try.func52, Try.ntmps52
  go_wp2_with (go_at_call 71; refine (nanl_any _ _).mono ?_; rintro e w' ⟨rfl, rfl⟩)
  all_goals
    go_ret
    refine ⟨?_, rfl⟩
    simp [cmpI]; omega

set_option maxHeartbeats 800000 in
theorem stamps_any (c1 i1 q1 c2 i2 q2 : Int) (w : World) : Calls Try.prog 51 #[.agg #[.int .i64 c1, .int .i64 i1, .int .i64 q1], .agg #[.int .i64 c2, .int .i64 i2, .int .i64 q2]] w (PInt (cmpSt c1 i1 q1 c2 i2 q2) w) := by
  cases h1 : stLess c1 i1 q1 c2 i2 q2 <;> cases h2 : stLess c2 i2 q2 c1 i1 q1
  all_goals
    have H1 := Lib.hid h1
    have H2 := Lib.hid h2
    clear h1 h2
    go_enter Try.func51, Try.ntmps51
    go_wp2_with fail
    refine (mless_any _ _ _ _ _ _ _).mono ?_
    rintro e w1 ⟨rfl, hg⟩
    rw [H1.out]
    obtain ⟨hc, hf⟩ := hg.rules
    have hz := hg.size
    simp at hz
    go_wp2_with fail
    first
      | (refine (mless_any _ _ _ _ _ _ _).mono ?_
         rintro e w2 ⟨rfl, hg2⟩
         rw [H2.out]
         go_wp2_with fail
         go_ret
         exact PInt.mk (by simp [cmpSt, H1.out, H2.out]) ((((Grew.refl _).alloc _).alloc _).trans (hg.trans hg2)))
      | (go_ret
         exact PInt.mk (by simp [cmpSt, H1.out]) ((((Grew.refl _).alloc _).alloc _).trans hg))

theorem find_none_succ {l : List Int} {k : Nat} {x : Int} (hx : l[k]? = some x) (h : (l.take k).find? (fun x => decide (x ≠ 0)) = none) (h0 : x = 0) : (l.take (k + 1)).find? (fun x => decide (x ≠ 0)) = none := by
  rw [List.take_add_one, hx, List.find?_append, h]; simp [h0]
theorem orI_here {l : List Int} {k : Nat} {x : Int} (hx : l[k]? = some x) (h : (l.take k).find? (fun x => decide (x ≠ 0)) = none) (h0 : x ≠ 0) : orI l = x := by
  have e : l = l.take k ++ (x :: l.drop (k + 1)) := by
    obtain ⟨hk, rfl⟩ := List.getElem?_eq_some_iff.1 hx
    rw [← List.drop_eq_getElem_cons hk, List.take_append_drop]
  unfold orI
  rw [e, List.find?_append, h]; simp [h0]

set_option maxHeartbeats 400000 in
theorem or_any (l : List Int) (n : Nat) (A : Option Addr) (c B : Nat) (w : World) (h : Rd w B 1 A n (intCells l)) (hl : n ≤ 9223372036854775807) :
    Calls Try.prog 48 #[.slice A n c] w fun e w' => e = .returned (.int .i64 (orI l)) ∧ w = w' := by
  have e1 : l.length = n := by have := h.len; simp [length_intCells] at this; exact this
  have E1 := Lib.hid e1
  have H := Lib.hid h
  clear e1 h
  go_enter Try.func48, Try.ntmps48
  go_wp2
  go_loop [8] (fun i => ∃ k : Nat, k ≤ n ∧ i = .int .i64 k ∧ Hid ((l.take k).find? (fun x => decide (x ≠ 0)) = none)) (fun i => n - (intOf i).toNat)
  case atStart => exact ⟨0, Nat.zero_le _, rfl, Lib.hid (by simp)⟩
  case round =>
    obtain ⟨k, hk, rfl, hpre⟩ := hrel
    by_cases hlt : k < n
    · obtain ⟨b, off, x, rfl, hb, hx, hc⟩ := H.out.int_at hlt
      have HX := Lib.hid hx
      clear hx
      go_wp2
      · go_ret
        exact ⟨by rw [orI_here HX.out hpre.out (by intro e; subst e; simp at *)]; rfl, rfl⟩
      · go_round
        case rel => exact ⟨k + 1, by omega, by go_num, Lib.hid (find_none_succ HX.out hpre.out (by simpa using ‹(x != 0) = false›))⟩
        case measure => simp [intOf]; omega
    · go_wp2
      go_ret
      refine ⟨?_, rfl⟩
      have : orI l = 0 := by
        have hp := hpre.out
        rw [List.take_of_length_le (by rw [E1.out]; omega)] at hp
        simp only [orI, hp]; rfl
      rw [this]; rfl

/-- plain: not opened by the walk -/
def HG (w w' : World) : Prop := Unit → w.heap.size + 2 ≤ w'.heap.size ∧ Grew w w'
theorem HG.mk {w w' : World} (h : w.heap.size + 2 ≤ w'.heap.size) (g : Grew w w') : HG w w' := fun _ => ⟨h, g⟩
theorem HG.sz {w w' : World} (h : HG w w') : w.heap.size + 2 ≤ w'.heap.size := (h ()).1
theorem HG.gr {w w' : World} (h : HG w w') : Grew w w' := (h ()).2
theorem HG.drew {w w' : World} (h : HG w w') : HG w w'.drew := HG.mk h.sz h.gr.drew
theorem HG.alloc {w w' : World} (h : HG w w') (o : Obj) : HG w (w'.alloc o) := HG.mk (by have := h.sz; simp; omega) (h.gr.alloc o)
theorem HG.trans {w w' w'' : World} (h : HG w w') (g : Grew w' w'') : HG w w'' := HG.mk (Nat.le_trans h.sz g.size) (h.gr.trans g)
theorem HG.cell0 {w w' w'' : World} (h : HG w w') (g : Grew w' w'') (o : Nat) : w''.cell? ⟨w.heap.size, o, none⟩ = w'.cell? ⟨w.heap.size, o, none⟩ :=
  g.cell (by have := h.sz; show w.heap.size < _; omega)
theorem HG.cell1 {w w' w'' : World} (h : HG w w') (g : Grew w' w'') (o : Nat) : w''.cell? ⟨w.heap.size + 1, o, none⟩ = w'.cell? ⟨w.heap.size + 1, o, none⟩ :=
  g.cell (by have := h.sz; show w.heap.size + 1 < _; omega)
def ordI (s1 : ByteArray) (t1 v1 c1 i1 q1 : Int) (s2 : ByteArray) (t2 v2 c2 i2 q2 : Int) : Int := orI [cmpS s1 s2, cmpI t1 t2, cmpSt c1 i1 q1 c2 i2 q2, cmpI v1 v2]

set_option maxRecDepth 100000 in
set_option maxHeartbeats 3200000 in
theorem order_any (s1 s2 : ByteArray) (t1 v1 c1 i1 q1 t2 v2 c2 i2 q2 : Int) (w : World) :
    Calls Try.prog 36 #[.agg #[.string s1, .int .i64 t1, .int .i64 v1, .int .i64 c1, .int .i64 i1, .int .i64 q1], .agg #[.string s2, .int .i64 t2, .int .i64 v2, .int .i64 c2, .int .i64 i2, .int .i64 q2]] w
      (PInt (ordI s1 t1 v1 c1 i1 q1 s2 t2 v2 c2 i2 q2) w) := by
  go_enter Try.func36, Try.ntmps36
  go_wp2_with fail
  obtain ⟨W, hW⟩ : ∃ W, W = (w.alloc (.cells #[.string s1, .int .i64 t1, .int .i64 v1, .int .i64 c1, .int .i64 i1, .int .i64 q1] 31)).alloc (.cells #[.string s2, .int .i64 t2, .int .i64 v2, .int .i64 c2, .int .i64 i2, .int .i64 q2] 31) := ⟨_, rfl⟩
  rw [← hW]
  have g0 : W.cell? ⟨w.heap.size, 0, none⟩ = some (.string s1) := by rw [hW]; simp [go_sem]
  have g1 : W.cell? ⟨w.heap.size, 1, none⟩ = some (.int .i64 t1) := by rw [hW]; simp [go_sem]
  have g2 : W.cell? ⟨w.heap.size, 2, none⟩ = some (.int .i64 v1) := by rw [hW]; simp [go_sem]
  have g3 : W.cell? ⟨w.heap.size, 3, none⟩ = some (.int .i64 c1) := by rw [hW]; simp [go_sem]
  have g4 : W.cell? ⟨w.heap.size, 4, none⟩ = some (.int .i64 i1) := by rw [hW]; simp [go_sem]
  have g5 : W.cell? ⟨w.heap.size, 5, none⟩ = some (.int .i64 q1) := by rw [hW]; simp [go_sem]
  have k0 : W.cell? ⟨w.heap.size + 1, 0, none⟩ = some (.string s2) := by rw [hW]; simp [go_sem]
  have k1 : W.cell? ⟨w.heap.size + 1, 1, none⟩ = some (.int .i64 t2) := by rw [hW]; simp [go_sem]
  have k2 : W.cell? ⟨w.heap.size + 1, 2, none⟩ = some (.int .i64 v2) := by rw [hW]; simp [go_sem]
  have k3 : W.cell? ⟨w.heap.size + 1, 3, none⟩ = some (.int .i64 c2) := by rw [hW]; simp [go_sem]
  have k4 : W.cell? ⟨w.heap.size + 1, 4, none⟩ = some (.int .i64 i2) := by rw [hW]; simp [go_sem]
  have k5 : W.cell? ⟨w.heap.size + 1, 5, none⟩ = some (.int .i64 q2) := by rw [hW]; simp [go_sem]
  have hg0 : HG w W := by rw [hW]; exact HG.mk (by simp) (((Grew.refl _).alloc _).alloc _)
  clear hW
  go_region_held3 (fun w' => w'.cell? ⟨w.heap.size, 0, none⟩ = some (.string s1) ∧ w'.cell? ⟨w.heap.size, 1, none⟩ = some (.int .i64 t1) ∧ w'.cell? ⟨w.heap.size, 2, none⟩ = some (.int .i64 v1) ∧
      w'.cell? ⟨w.heap.size, 3, none⟩ = some (.int .i64 c1) ∧ w'.cell? ⟨w.heap.size, 4, none⟩ = some (.int .i64 i1) ∧ w'.cell? ⟨w.heap.size, 5, none⟩ = some (.int .i64 q1) ∧
      w'.cell? ⟨w.heap.size + 1, 0, none⟩ = some (.string s2) ∧ w'.cell? ⟨w.heap.size + 1, 1, none⟩ = some (.int .i64 t2) ∧ w'.cell? ⟨w.heap.size + 1, 2, none⟩ = some (.int .i64 v2) ∧
      w'.cell? ⟨w.heap.size + 1, 3, none⟩ = some (.int .i64 c2) ∧ w'.cell? ⟨w.heap.size + 1, 4, none⟩ = some (.int .i64 i2) ∧ w'.cell? ⟨w.heap.size + 1, 5, none⟩ = some (.int .i64 q2) ∧ HG w w')
    (first
      | exact ⟨g0, g1, g2, g3, g4, g5, k0, k1, k2, k3, k4, k5, hg0.drew⟩
      | (go_split_ands
         refine ⟨?_, ?_, ?_, ?_, ?_, ?_, ?_, ?_, ?_, ?_, ?_, ?_, ?_⟩
         all_goals first
           | (rw [HG.cell0 (by assumption) hg]; assumption)
           | (rw [HG.cell1 (by assumption) hg]; assumption)
           | exact HG.trans (by assumption) hg)
      | (go_split_ands
         refine ⟨?_, ?_, ?_, ?_, ?_, ?_, ?_, ?_, ?_, ?_, ?_, ?_, ?_⟩
         all_goals first
           | assumption
           | exact HG.alloc (by assumption) _
           | (rw [HG.cell0 (by assumption) ((Grew.refl _).alloc _)]; assumption)
           | (rw [HG.cell1 (by assumption) ((Grew.refl _).alloc _)]; assumption)))
    (first
      | (go_at_call 49; refine (cmps_any _ _ _).mono ?_; rintro e w1 ⟨rfl, rfl⟩)
      | (go_at_call 50; refine (cmpi_any _ _ _).mono ?_; rintro e w1 ⟨rfl, rfl⟩)
      | (go_at_call 52; refine (cmpl_any _ _ _).mono ?_; rintro e w1 ⟨rfl, rfl⟩)
      | (go_at_call 51; refine (stamps_any _ _ _ _ _ _ _).mono ?_; rintro e w1 ⟨rfl, hg⟩)
      | (go_at_call 48; refine (or_any [cmpS s1 s2, cmpI t1 t2, cmpSt c1 i1 q1 c2 i2 q2, cmpI v1 v2] 4 _ _ _ _ (Rd.new_ _ _ 1 4 _ (by rfl) (by rfl)) (by omega)).mono ?_; rintro e w1 ⟨rfl, rfl⟩))
  go_wp2
  go_split_ands
  go_ret
  exact PInt.mk rfl (HG.gr (by assumption))
end Go.Proofs.Ytmlelggakadpdaa
