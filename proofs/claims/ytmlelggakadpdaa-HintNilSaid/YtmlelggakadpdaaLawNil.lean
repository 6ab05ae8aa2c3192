/-
  The statement HintNil: the walk of the law, in every world.
-/
import Derived.Test.YtmlelggakadpdaaLaw0
namespace Go.Proofs.Ytmlelggakadpdaa
open Go.RowKit

set_option maxRecDepth 100000 in
set_option maxHeartbeats 800000 in
theorem ack_none (node : Int) (l : List Pt) (n c B : Nat) (A : Option Addr) (w : World) (hr : Rd w B 6 A n (ptCells l)) (hB : B ≤ w.heap.size) (hn : n ≤ 100000) :
    Calls Try.prog 16 #[.pointer none, .int .i64 node, .slice A n c] w (PInt 0 w) := by
  have HR := Lib.hid hr
  clear hr
  go_enter Try.func16, Try.ntmps16
  go_wp2
  go_loopw [7, 13] (fun u i wr => ∃ k : Nat, k ≤ n ∧ i = .int .i64 k ∧ u = .int .i64 0 ∧ Hid (Grew w wr)) (fun _ i _ => n - (intOf i).toNat)
  case atStart => exact ⟨0, Nat.zero_le _, rfl, rfl, Lib.hid (Grew.refl _)⟩
  case round =>
    obtain ⟨k, hk, rfl, rfl, HG⟩ := hrel
    by_cases hlt : k < n
    · obtain ⟨bb, off, p, rfl, hb, hx, g0, g1, g2, g3, g4, g5⟩ := (HR.out.grew HG.out hB).pt_at hlt
      have HX := Lib.hid hx
      clear hx
      go_wp2
      go_quiet (fail)
      go_wp2
      go_roundw
      case rel => exact ⟨k + 1, by omega, by go_num, rfl, Lib.hid (((HG.out.alloc _).alloc _).drewN _)⟩
      case measure => simp [intOf]; omega
    · go_wp2
      go_ret
      exact PInt.mk rfl HG.out

set_option maxHeartbeats 400000 in
theorem allnodes_none (w : World) : Calls Try.prog 17 #[.pointer none] w fun e w' => e = .returned (.slice none 0 0) ∧ w = w' := by
  go_enter Try.func17, Try.ntmps17
  go_wp2_with fail
  refine (nodes_none _ _).mono ?_
  rintro e w1 ⟨rfl, rfl⟩
  go_wp2_with fail
  go_ret
  exact ⟨rfl, rfl⟩

set_option maxHeartbeats 400000 in
theorem owed_none (p : Pt) (w : World) : Calls Try.prog 20 #[.pointer none, .agg #[.string p.s, .int .i64 p.t, .int .i64 p.v, .int .i64 p.c, .int .i64 p.i, .int .i64 p.q]] w fun e w' => e = .returned (.slice none 0 0) ∧ Grew w w' := by
  go_enter Try.func20, Try.ntmps20
  go_wp2_with fail
  refine (nodes_none _ _).mono ?_
  rintro e w1 ⟨rfl, rfl⟩
  go_wp2_with fail
  go_ret
  exact ⟨rfl, (Grew.refl _).alloc _⟩

theorem add3 : addR [] 0 (lawPt 1) [1] = (false, []) := by decide +kernel
theorem add4 : addR [] 0 (lawPt 1) [] = (true, []) := by decide +kernel

set_option maxRecDepth 100000 in
set_option maxHeartbeats 3200000 in
theorem nil_any (n : Int) (w : World) : Calls Try.prog 7 #[.int .i64 n] w (PBoolF true w) := by
  go_enter Try.func7, Try.ntmps7
  go_wp2_with fail
  have hz : IsHints (w.alloc (.cells #[.int .i64 0, .map none] 62)) w.heap.size none 0 [] := ⟨by simp [go_sem], by simp [go_sem], fun _ => rfl, (fun k hk => by cases hk), (fun k hk => by cases hk)⟩
  have HZ := Lib.hid hz
  have HF0 := Lib.hid ((Fr.refl [] w).alloc (.cells #[.int .i64 0, .map none] 62))
  clear hz
  refine (awake_any _).mono ?_
  rintro e w1 ⟨rfl, hf1⟩
  have HZ1 := Lib.hid (HZ.out.fr hf1 (by simp) (by simp))
  have HF1 := Lib.hid (HF0.out.trans' hf1)
  clear hf1
  go_wp2_with fail
  refine (point_any 1 _).mono ?_
  rintro e w2 ⟨rfl, hg2⟩
  have HZ2 := Lib.hid (HZ1.out.grew hg2)
  have HF2 := Lib.hid (HF1.out.trans' (hg2.fr []))
  clear hg2
  go_wp2_with fail
  refine (add_none (lawPt 1) _ _ _ _).mono ?_
  rintro e w3 ⟨rfl, hg3⟩
  have HZ3 := Lib.hid ((HZ2.out.grew ((Grew.refl _).alloc _)).grew hg3)
  have HF3 := Lib.hid ((HF2.out.alloc _).trans' (hg3.fr []))
  clear hg3
  go_wp2_with fail
  refine (point_any 1 _).mono ?_
  rintro e w4 ⟨rfl, hg4⟩
  have HZ4 := Lib.hid (HZ3.out.grew hg4)
  have HF4 := Lib.hid (HF3.out.trans' (hg4.fr []))
  clear hg4
  go_wp2_with fail
  refine (ack_none 1 [lawPt 1] 1 1 (w4.heap.size + 1) _ _ (Rd.new_ _ _ 6 1 _ (by rfl) (by rfl)) (by simp) (by omega)).mono ?_
  rintro e w5 ⟨rfl, hg5⟩
  have HZ5 := Lib.hid ((HZ4.out.grew ((Grew.refl _).alloc _)).grew hg5)
  have HF5 := Lib.hid ((HF4.out.alloc _).trans' (hg5.fr []))
  clear hg5
  go_wp2_with fail
  refine (drop_none _ _).mono ?_
  rintro e w6 ⟨rfl, rfl⟩
  go_wp2_with fail
  refine (len_nil _).mono ?_
  rintro e w6 ⟨rfl, rfl⟩
  go_wp2_with fail
  refine (room_nil _).mono ?_
  rintro e w6 ⟨rfl, rfl⟩
  go_wp2_with fail
  refine (for_none _ _ _).mono ?_
  rintro e w6 ⟨rfl, rfl⟩
  go_wp2_with fail
  refine (point_any 1 _).mono ?_
  rintro e w6 ⟨rfl, hg6⟩
  have HZ6 := Lib.hid (HZ5.out.grew hg6)
  have HF6 := Lib.hid (HF5.out.trans' (hg6.fr []))
  clear hg6
  go_wp2_with fail
  refine (owed_none (lawPt 1) _).mono ?_
  rintro e w7 ⟨rfl, hg7⟩
  have HZ7 := Lib.hid (HZ6.out.grew hg7)
  have HF7 := Lib.hid (HF6.out.trans' (hg7.fr []))
  clear hg7
  go_wp2_with fail
  refine (allnodes_none _).mono ?_
  rintro e w8 ⟨rfl, rfl⟩
  go_wp2_with fail
  refine (point_any 1 _).mono ?_
  rintro e w8 ⟨rfl, hg8⟩
  have HZ8 := Lib.hid (HZ7.out.grew hg8)
  have HF8 := Lib.hid (HF7.out.trans' (hg8.fr []))
  clear hg8
  go_wp2_with fail
  refine (add_any w.heap.size none 0 [] (lawPt 1) [1] 1 1 (w8.heap.size + 1) _ _ (HZ8.out.grew ((Grew.refl _).alloc _)) aName_le (Rd.new_ _ _ 1 1 _ (by rfl) (by rfl)) (by simp) (by omega) (by simp) (by omega) (by omega) (by simp)).mono ?_
  rintro e w9 ⟨rfl, hz9, hf9⟩
  rw [add3] at hz9 ⊢
  have HZ9 := Lib.hid hz9
  have HF9 := Lib.hid ((HF8.out.alloc _).trans' hf9)
  clear hz9 hf9
  go_wp2_with fail
  refine (point_any 1 _).mono ?_
  rintro e w10 ⟨rfl, hg10⟩
  have HZ10 := Lib.hid (HZ9.out.grew hg10)
  have HF10 := Lib.hid (HF9.out.trans' (hg10.fr []))
  clear hg10
  go_wp2_with fail
  refine (add_any w.heap.size none 0 [] (lawPt 1) [] 0 0 0 none _ HZ10.out aName_le Rd.nil_ (by omega) (by omega) (by simp) (by omega) (by omega) (by simp)).mono ?_
  rintro e w11 ⟨rfl, hz11, hf11⟩
  rw [add4] at hz11 ⊢
  have HZ11 := Lib.hid hz11
  have HF11 := Lib.hid (HF10.out.trans' hf11)
  clear hz11 hf11
  go_wp2_with fail
  refine (len_any w.heap.size none 0 [] _ HZ11.out).mono ?_
  rintro e w12 ⟨rfl, hg12⟩
  have HZ12 := Lib.hid (HZ11.out.grew hg12)
  have HF12 := Lib.hid (HF11.out.trans' (hg12.fr []))
  clear hg12
  go_wp2_with fail
  refine (room_any w.heap.size none 0 [] _ HZ12.out (by omega) (by omega) (by simp)).mono ?_
  rintro e w13 ⟨rfl, hg13⟩
  have HF13 := Lib.hid (HF12.out.trans' (hg13.fr []))
  clear hg13
  go_wp2_with fail
  go_ret
  exact PBoolF.mk rfl HF13.out
end Go.Proofs.Ytmlelggakadpdaa
