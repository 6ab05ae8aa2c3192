/-
  Which of two points comes first: the contracts of the comparing functions, the program's and the reference's, by plain functions on numbers and strings.
-/
import Derived.Test.YtmlelggakadpdaaPts
namespace Go.Proofs.Ytmlelggakadpdaa
open Go.RowKit

theorem Grew.rules {W w1 : World} (h : Grew W w1) : (∀ b o, b < W.heap.size → w1.cell? ⟨b, o, none⟩ = W.cell? ⟨b, o, none⟩) ∧ (∀ b o, b < W.heap.size → w1.frozen? ⟨b, o, none⟩ = W.frozen? ⟨b, o, none⟩) :=
  ⟨fun b o hb => h.cell (a := ⟨b, o, none⟩) hb, fun b o hb => h.frozen (a := ⟨b, o, none⟩) hb⟩

def sless (a b : ByteArray) : Bool := Op.bytesLess a.toList b.toList
def seq (a b : ByteArray) : Bool := a.toList == b.toList
theorem seq_iff (a b : ByteArray) : seq a b = true ↔ a = b := by
  unfold seq
  rw [ByteArray.toList_eq, ByteArray.toList_eq, beq_iff_eq]
  constructor
  · intro h; cases a; cases b; simp at h; rw [h]
  · intro h; rw [h]
def stLess (c1 i1 q1 c2 i2 q2 : Int) : Bool := if c1 = c2 then (if i1 = i2 then decide (q1 < q2) else decide (i1 < i2)) else decide (c1 < c2)
def befB (s1 : ByteArray) (t1 : Int) (s2 : ByteArray) (t2 : Int) : Bool := sless s1 s2 || (seq s1 s2 && decide (t1 < t2))
def cmpI (a b : Int) : Int := if a < b then -1 else if b < a then 1 else 0
def cmpS (a b : ByteArray) : Int := if sless a b then -1 else if sless b a then 1 else 0

theorem bytesLess_irrefl : ∀ l : List UInt8, Op.bytesLess l l = false
  | [] => rfl
  | a :: l => by simp [Op.bytesLess, bytesLess_irrefl l]
theorem bytesLess_asymm : ∀ l m : List UInt8, Op.bytesLess l m = true → Op.bytesLess m l = false
  | _, [], h => by cases ‹List UInt8› <;> simp [Op.bytesLess] at h
  | [], b :: m, _ => by simp [Op.bytesLess]
  | a :: l, b :: m, h => by
    simp only [Op.bytesLess, Bool.or_eq_true, decide_eq_true_eq, Bool.and_eq_true, beq_iff_eq] at h
    simp only [Op.bytesLess, Bool.or_eq_false_iff, decide_eq_false_iff_not, Bool.and_eq_false_iff, beq_eq_false_iff_ne]
    rcases h with h | ⟨rfl, h⟩
    · exact ⟨fun h' => by have := UInt8.lt_iff_toNat_lt.1 h; have := UInt8.lt_iff_toNat_lt.1 h'; omega, .inl (fun e => by subst e; have := UInt8.lt_iff_toNat_lt.1 h; omega)⟩
    · exact ⟨fun h' => by have := UInt8.lt_iff_toNat_lt.1 h'; omega, .inr (bytesLess_asymm l m h)⟩
theorem bytesLess_trans : ∀ l m n : List UInt8, Op.bytesLess l m = true → Op.bytesLess m n = true → Op.bytesLess l n = true
  | l, m, [], _, h => by cases m <;> simp [Op.bytesLess] at h
  | l, [], _ :: _, h, _ => by cases l <;> simp [Op.bytesLess] at h
  | [], _ :: _, _ :: _, _, _ => rfl
  | a :: l, b :: m, c :: n, h, h' => by
    simp only [Op.bytesLess, Bool.or_eq_true, decide_eq_true_eq, Bool.and_eq_true, beq_iff_eq] at h h' ⊢
    rcases h with h | ⟨rfl, h⟩
    · rcases h' with h' | ⟨rfl, h'⟩
      · exact .inl (UInt8.lt_trans h h')
      · exact .inl h
    · rcases h' with h' | ⟨rfl, h'⟩
      · exact .inl h'
      · exact .inr ⟨rfl, bytesLess_trans l m n h h'⟩
theorem bytesLess_total : ∀ l m : List UInt8, Op.bytesLess l m = false → Op.bytesLess m l = false → l = m
  | [], [], _, _ => rfl
  | [], _ :: _, h, _ => by simp [Op.bytesLess] at h
  | _ :: _, [], _, h => by simp [Op.bytesLess] at h
  | a :: l, b :: m, h, h' => by
    simp only [Op.bytesLess, Bool.or_eq_false_iff, decide_eq_false_iff_not, Bool.and_eq_false_iff, beq_eq_false_iff_ne] at h h'
    have hab : a = b := by
      apply UInt8.toNat_inj.1
      have h1 := h.1; have h2 := h'.1
      rw [UInt8.lt_iff_toNat_lt] at h1 h2
      omega
    subst hab
    rw [bytesLess_total l m (h.2.resolve_left (by simp)) (h'.2.resolve_left (by simp))]
theorem sless_irrefl (a : ByteArray) : sless a a = false := bytesLess_irrefl _
theorem sless_asymm {a b : ByteArray} (h : sless a b = true) : sless b a = false := bytesLess_asymm _ _ h
theorem sless_trans {a b c : ByteArray} (h : sless a b = true) (h' : sless b c = true) : sless a c = true := bytesLess_trans _ _ _ h h'
theorem sless_total {a b : ByteArray} (h : sless a b = false) (h' : sless b a = false) : a = b := by
  have := bytesLess_total _ _ h h'
  exact (seq_iff a b).1 (by unfold seq; rw [this]; simp)

set_option maxHeartbeats 800000 in
theorem mless_any (c1 i1 q1 c2 i2 q2 : Int) (w : World) : Calls Try.prog 70 #[.agg #[.int .i64 c1, .int .i64 i1, .int .i64 q1], .agg #[.int .i64 c2, .int .i64 i2, .int .i64 q2]] w (PBool (stLess c1 i1 q1 c2 i2 q2) w) := by
  go_enter Try.func70, Try.ntmps70
  go_wp2
  all_goals
    go_ret
    refine PBool.mk ?_ (((Grew.refl _).alloc _).alloc _)
    simp_all [stLess]
set_option maxHeartbeats 800000 in
theorem rless_any (c1 i1 q1 c2 i2 q2 : Int) (w : World) : Calls Try.prog 56 #[.agg #[.int .i64 c1, .int .i64 i1, .int .i64 q1], .agg #[.int .i64 c2, .int .i64 i2, .int .i64 q2]] w (PBool (stLess c1 i1 q1 c2 i2 q2) w) := by
  go_enter Try.func56, Try.ntmps56
  go_wp2
  all_goals
    go_ret
    refine PBool.mk ?_ (((Grew.refl _).alloc _).alloc _)
    simp_all [stLess]
set_option maxHeartbeats 800000 in
theorem rbefore_any (s1 s2 : ByteArray) (t1 v1 c1 i1 q1 t2 v2 c2 i2 q2 : Int) (w : World) :
    Calls Try.prog 55 #[.agg #[.string s1, .int .i64 t1, .int .i64 v1, .int .i64 c1, .int .i64 i1, .int .i64 q1], .agg #[.string s2, .int .i64 t2, .int .i64 v2, .int .i64 c2, .int .i64 i2, .int .i64 q2]] w
      (PBool (befB s1 t1 s2 t2) w) := by
  go_enter Try.func55, Try.ntmps55
  go_wp2
  all_goals
    go_ret
    refine PBool.mk ?_ (((Grew.refl _).alloc _).alloc _)
    simp_all [befB, sless, seq]
set_option maxHeartbeats 800000 in
theorem checkp_any (s : ByteArray) (t v c i q : Int) (w : World) (hs : s.size ≤ maxLen) :
    Calls Try.prog 30 #[.agg #[.string s, .int .i64 t, .int .i64 v, .int .i64 c, .int .i64 i, .int .i64 q]] w (PInt (errOf (ptB s t c i q)) w) := by
  go_enter Try.func30, Try.ntmps30
  cases hb : nameB s <;> cases hi : inB 0 1099511627776 t
  all_goals
    have HB := Lib.hid hb
    have HI := Lib.hid hi
    clear hb hi
    go_wp2_with (first
      | (go_at_call 42; refine (sname_any _ _ hs).mono ?_; rintro e w1 ⟨rfl, hg⟩; rw [HB.out]; obtain ⟨hc, hf⟩ := hg.rules; have hz := hg.size; simp at hz)
      | (go_at_call 43; refine (clock_any _ _).mono ?_; rintro e w2 ⟨rfl, rfl⟩; rw [HI.out])
      | (go_at_call 44; refine (mcheck_any _ _ _ _).mono ?_; rintro e w3 ⟨rfl, hg3⟩))
    go_ret
    refine PInt.mk ?_ ?_
    · simp [errOf, ptB, HB.out, HI.out]
    · first
        | exact ((Grew.refl _).alloc _).trans (hg.trans hg3)
        | exact ((Grew.refl _).alloc _).trans hg
set_option maxHeartbeats 800000 in
theorem rcheckp_any (s : ByteArray) (t v c i q : Int) (w : World) (hs : s.size ≤ maxLen) :
    Calls Try.prog 13 #[.agg #[.string s, .int .i64 t, .int .i64 v, .int .i64 c, .int .i64 i, .int .i64 q]] w (PInt (errOf (ptB s t c i q)) w) := by
  go_enter Try.func13, Try.ntmps13
  cases hb : nameB s <;> cases hi : inB 0 1099511627776 t <;> cases hk : stB c i q
  all_goals
    have HB := Lib.hid hb
    have HI := Lib.hid hi
    have HK := Lib.hid hk
    clear hb hi hk
    go_wp2_with (first
      | (go_at_call 32; refine (rname_any _ _ hs).mono ?_; rintro e w1 ⟨rfl, hg⟩; rw [HB.out]; obtain ⟨hc, hf⟩ := hg.rules; have hz := hg.size; simp at hz)
      | (go_at_call 33; refine (rtime_any _ _).mono ?_; rintro e w2 ⟨rfl, rfl⟩; rw [HI.out])
      | (go_at_call 34; refine (rcheck_any _ _ _ _).mono ?_; rintro e w3 ⟨rfl, hg3⟩; rw [HK.out, errOf]))
    go_ret
    refine PInt.mk ?_ ?_
    · simp [errOf, ptB, HB.out, HI.out, HK.out]
    · first
        | exact ((Grew.refl _).alloc _).trans (hg.trans hg3)
        | exact ((Grew.refl _).alloc _).trans hg
end Go.Proofs.Ytmlelggakadpdaa
