/-
  The chapter's own examples ('awake'), which each statement asks first: they come out true.
-/
import Derived.Test.YtmlelggakadpdaaImp5
namespace Go.Proofs.Ytmlelggakadpdaa
open Go.RowKit

def aName : ByteArray := ⟨#[97]⟩
/-- The law's own point: of a, at a time. -/
def lawPt (t : Int) : Pt := ⟨aName, t, 0, 1, 0, 1⟩
def PPoint (p : Pt) (w : World) (e : Ending) (w' : World) : Prop := e = .returned (.agg #[.string p.s, .int .i64 p.t, .int .i64 p.v, .int .i64 p.c, .int .i64 p.i, .int .i64 p.q]) ∧ Grew w w'

set_option maxHeartbeats 400000 in
theorem point_any (t : Int) (w : World) : Calls Try.prog 18 #[.int .i64 t] w (PPoint (lawPt t) w) := by
  go_enter Try.func18, Try.ntmps18
  go_wp2
  refine bodyPost_ret (v := .agg #[.string aName, .int .i64 t, .int .i64 0, .int .i64 1, .int .i64 0, .int .i64 1]) ?_ rfl ⟨rfl, ?_⟩
  · simp [results, Try.results18, go_sem, aName]
  · exact (Grew.refl _).alloc _

def PBoolF (b : Bool) (w : World) (e : Ending) (w' : World) : Prop := e = .returned (.bool b) ∧ Fr [] w w'
theorem PBoolF.mk {b b' : Bool} {w w' : World} (h : b = b') (hg : Fr [] w w') : PBoolF b' w (.returned (.bool b)) w' := ⟨by rw [h], hg⟩
/-- What the call has laid itself is no block of the caller's. -/
theorem Fr.own {S : List Nat} {w w1 w2 : World} (h : Fr [] w w1) (h' : Fr S w1 w2) (hs : ∀ k ∈ S, w.heap.size ≤ k) : Fr [] w w2 :=
  h.trans h' fun k hk hlt => by have := hs k hk; omega
def HF (w w' : World) : Prop := Unit → Fr [] w w'
theorem HF.mk {w w' : World} (g : Fr [] w w') : HF w w' := fun _ => g
theorem HF.gr {w w' : World} (h : HF w w') : Fr [] w w' := h ()

/-- W's frame, and that the world at hand has grown out of W1. -/
def HFs (W W1 w' : World) : Prop := Unit → Fr [] W w' ∧ Grew W1 w'
theorem HFs.mk {W W1 w' : World} (g : Fr [] W w') (h : Grew W1 w') : HFs W W1 w' := fun _ => ⟨g, h⟩
theorem HFs.gr {W W1 w' : World} (h : HFs W W1 w') : Fr [] W w' := (h ()).1
theorem HFs.trans {W W1 w' w'' : World} (h : HFs W W1 w') (g : Grew w' w'') : HFs W W1 w'' := HFs.mk (h.gr.trans' (g.fr [])) ((h ()).2.trans g)
theorem HFs.cell {W W1 w' w'' : World} (h : HFs W W1 w') (g : Grew w' w'') {b o : Nat} (hb : b < W1.heap.size) : w''.cell? ⟨b, o, none⟩ = w'.cell? ⟨b, o, none⟩ :=
  g.cell (Nat.lt_of_lt_of_le hb (h ()).2.size)

def M1 : List Hnt := [⟨lawPt 5, 1⟩, ⟨lawPt 5, 2⟩]
def M2 : List Hnt := [⟨lawPt 5, 2⟩]
theorem add1 : addR [] 2 (lawPt 5) [1, 2] = (true, M1) := by decide +kernel
theorem add2 : addR M1 2 (lawPt 6) [1] = (false, M1) := by decide +kernel
theorem ack1 : ackL M1 1 [lawPt 5] = (M2, 1) := by decide +kernel
theorem owed1 : nodesOf M2 (fun x => decide (x = lawPt 5)) = [2] := by
  have : (M2.filter (fun x => decide (x.p = lawPt 5))).map (·.n) = [2] := by decide +kernel
  unfold nodesOf
  rw [this]
  have : sortI [2] = [2] := by simp [sortI]
  rw [this]; decide +kernel
theorem for1 : forL M2 2 5 = [lawPt 5] := by
  have : (M2.filter (fun x => decide (x.n = 2))).map (·.p) = [lawPt 5] := by decide +kernel
  unfold forL ptsFor
  rw [this]
  have : sortP [lawPt 5] = [lawPt 5] := by simp [sortP]
  rw [this]; decide +kernel
theorem aName_le : aName.size ≤ maxLen := by decide +kernel

set_option maxRecDepth 100000 in
set_option maxHeartbeats 3200000 in
theorem awake_any (w : World) : Calls Try.prog 8 #[] w (PBoolF true w) := by
  go_enter Try.func8, Try.ntmps8
  go_wp2_with fail
  refine (new_any 2 _).mono ?_
  rintro e w1 ⟨b, m, rfl, hI1, hb, hm, hg1⟩
  have HI1 := Lib.hid hI1
  have HG1 := Lib.hid hg1
  clear hI1 hg1
  go_wp2_with fail
  refine (point_any 5 _).mono ?_
  rintro e w2 ⟨rfl, hg2⟩
  have HG2 := Lib.hid hg2
  clear hg2
  go_wp2_with fail
  refine (add_any b (some m) 2 [] (lawPt 5) [1, 2] 2 2 (w2.heap.size + 1) _ _ ((HI1.out.grew HG2.out).grew ((Grew.refl _).alloc _)) aName_le (Rd.new_ _ _ 1 2 _ (by rfl) (by rfl)) (by simp) (by omega) (by simp) (by omega) (by omega) (by simp)).mono ?_
  rintro e w3 ⟨rfl, hI3, hf3⟩
  rw [add1] at hI3 ⊢
  have hF3 : Fr [] w w3 := (((HG1.out.trans HG2.out).alloc _).fr []).own hf3 (by simpa using hm)
  have HI3 := Lib.hid hI3
  have HF3 := Lib.hid hF3
  clear hI3 hf3 hF3
  go_wp2_with fail
  refine (point_any 6 _).mono ?_
  rintro e w4 ⟨rfl, hg4⟩
  have HG4 := Lib.hid hg4
  clear hg4
  go_wp2_with fail
  refine (add_any b (some m) 2 M1 (lawPt 6) [1] 1 1 (w4.heap.size + 1) _ _ ((HI3.out.grew HG4.out).grew ((Grew.refl _).alloc _)) aName_le (Rd.new_ _ _ 1 1 _ (by rfl) (by rfl)) (by simp) (by omega) (by decide) (by omega) (by omega) (by simp)).mono ?_
  rintro e w5 ⟨rfl, hI5, hf5⟩
  rw [add2] at hI5 ⊢
  have hF5 : Fr [] w w5 := (HF3.out.trans' ((HG4.out.alloc _).fr [])).own hf5 (by simpa using hm)
  have HI5 := Lib.hid hI5
  have HF5 := Lib.hid hF5
  clear hI5 hf5 hF5
  go_wp2_with fail
  refine (point_any 5 _).mono ?_
  rintro e w6 ⟨rfl, hg6⟩
  have HG6 := Lib.hid hg6
  clear hg6
  go_wp2_with fail
  refine (ack_any b m 2 1 M1 [lawPt 5] 1 1 (w6.heap.size + 1) _ _ ((HI5.out.grew HG6.out).grew ((Grew.refl _).alloc _)) (Rd.new_ _ _ 6 1 _ (by rfl) (by rfl)) (by simp) (by omega)).mono ?_
  rintro e w7 ⟨rfl, hI7, hf7⟩
  rw [ack1] at hI7 ⊢
  have hF7 : Fr [] w w7 := (HF5.out.trans' ((HG6.out.alloc _).fr [])).own hf7 (by simpa using hm)
  have HI7 := Lib.hid hI7
  have HF7 := Lib.hid hF7
  clear hI7 hf7 hF7
  go_wp2_with fail
  refine (point_any 5 _).mono ?_
  rintro e w8 ⟨rfl, hg8⟩
  have HG8 := Lib.hid hg8
  clear hg8
  go_wp2_with fail
  refine (owed_any b m 2 M2 (lawPt 5) _ (HI7.out.grew HG8.out) (by decide)).mono ?_
  rintro e w9 ⟨A9, c9, rfl, hr9, hf9⟩
  rw [owed1] at hr9 ⊢
  have HR9 := Lib.hid hr9
  have HF9 := Lib.hid (HF7.out.trans' ((HG8.out.fr []).trans' hf9))
  have HI9 := Lib.hid ((HI7.out.grew HG8.out).fr hf9 (by simp) (by simp))
  clear hr9 hf9
  go_wp2_with fail
  refine (same_any [2] [2] 1 1 A9 _ _ _ _ _ _ (HR9.out.alloc (Nat.le_refl _) _) (Rd.new_ _ _ 1 1 _ (by rfl) (by rfl)) (by omega)).mono ?_
  rintro e w10 ⟨rfl, hg10⟩
  have HF10 := Lib.hid ((HF9.out.alloc (.cells #[.int .i64 2] 3)).trans' (hg10.fr []))
  have HI10 := Lib.hid ((HI9.out.grew ((Grew.refl _).alloc (.cells #[.int .i64 2] 3))).grew hg10)
  clear hg10
  go_wp2_with fail
  refine (for_any b m 2 2 5 M2 _ HI10.out (by decide)).mono ?_
  rintro e w11 ⟨A11, c11, rfl, hr11, hf11⟩
  rw [for1] at hr11 ⊢
  obtain ⟨bb, off, q, rfl, hbb, hq, g0, g1, g2, g3, g4, g5⟩ := hr11.pt_at (k := 0) (by simp)
  obtain rfl : q = lawPt 5 := by simpa using hq.symm
  have hF11 : HF w w11 := HF.mk (HF10.out.trans' hf11)
  simp only [Nat.zero_mul, Nat.add_zero] at g0 g1 g2 g3 g4 g5
  have hgd := pt_guard
  have heq : ∀ W, (binOp .eql 31 (.agg #[.string (lawPt 5).s, .int .i64 (lawPt 5).t, .int .i64 (lawPt 5).v, .int .i64 (lawPt 5).c, .int .i64 (lawPt 5).i, .int .i64 (lawPt 5).q]) (.agg #[.string (lawPt 5).s, .int .i64 (lawPt 5).t, .int .i64 (lawPt 5).v, .int .i64 (lawPt 5).c, .int .i64 (lawPt 5).i, .int .i64 (lawPt 5).q])).run Try.prog W = .ok (.bool true) W := fun W => by
    rw [run_eql_pt]; simp
  clear hr11 hf11 hq
  go_wp2_with fail
  go_region_held3 (fun w' => w'.cell? ⟨bb, off, none⟩ = some (.string (lawPt 5).s) ∧ w'.cell? ⟨bb, off + 1, none⟩ = some (.int .i64 (lawPt 5).t) ∧ w'.cell? ⟨bb, off + 2, none⟩ = some (.int .i64 (lawPt 5).v) ∧
      w'.cell? ⟨bb, off + 3, none⟩ = some (.int .i64 (lawPt 5).c) ∧ w'.cell? ⟨bb, off + 4, none⟩ = some (.int .i64 (lawPt 5).i) ∧ w'.cell? ⟨bb, off + 5, none⟩ = some (.int .i64 (lawPt 5).q) ∧ HFs w w11 w')
    (first
      | exact ⟨g0, g1, g2, g3, g4, g5, HFs.mk (hF11.gr.drew) (Grew.refl _).drew⟩
      | (go_split_ands
         refine ⟨?_, ?_, ?_, ?_, ?_, ?_, ?_⟩
         all_goals first
           | (rw [HFs.cell (by assumption) hg hbb]; assumption)
           | exact HFs.trans (by assumption) hg))
    (first
      | (go_at_call 18; refine (point_any 5 _).mono ?_; rintro e w12 ⟨rfl, hg⟩))
  go_wp2
  go_split_ands
  go_ret
  exact PBoolF.mk rfl (HFs.gr (by assumption))
end Go.Proofs.Ytmlelggakadpdaa
