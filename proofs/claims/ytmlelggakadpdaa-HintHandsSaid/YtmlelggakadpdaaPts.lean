/-
  What a point is, when it may be, and which of two comes first: the contracts of the functions that only reckon with points (the program's and the reference's), stated by one plain function each.
-/
import Derived.Test.YtmlelggakadpdaaSlc
import Derived.Test.YtmlelggakadpdaaRows
namespace Go.Proofs.Ytmlelggakadpdaa
open Go.RowKit

def PBool (b : Bool) (w : World) (e : Ending) (w' : World) : Prop := e = .returned (.bool b) ∧ Grew w w'
def PInt (n : Int) (w : World) (e : Ending) (w' : World) : Prop := e = .returned (.int .i64 n) ∧ Grew w w'
theorem PBool.mk {b b' : Bool} {w w' : World} (h : b = b') (hg : Grew w w') : PBool b' w (.returned (.bool b)) w' := ⟨by rw [h], hg⟩
theorem PInt.mk {n n' : Int} {w w' : World} (h : n = n') (hg : Grew w w') : PInt n' w (.returned (.int .i64 n)) w' := ⟨by rw [h], hg⟩

def inB (lo hi n : Int) : Bool := decide (lo ≤ n) && decide (n ≤ hi)
def errOf (b : Bool) : Int := if b then 0 else 1
def okChar (c : UInt8) : Bool := (97 ≤ c.toNat && c.toNat ≤ 122) || (48 ≤ c.toNat && c.toNat ≤ 57) || c.toNat == 95 || c.toNat == 46
def headOk (s : ByteArray) : Bool := match s.data.toList with | [] => false | c :: _ => 97 ≤ c.toNat && c.toNat ≤ 122
def nameB (s : ByteArray) : Bool := 1 ≤ s.size && s.size ≤ 40 && headOk s && s.data.toList.all okChar
def stB (c i q : Int) : Bool := inB 1 1099511627776 c && inB 1 1099511627776 q && inB 0 7 i
def ptB (s : ByteArray) (t c i q : Int) : Bool := nameB s && inB 0 1099511627776 t && stB c i q

theorem headOk_eq (s : ByteArray) (h : 0 < s.size) : headOk s = (97 ≤ s[0].toNat && s[0].toNat ≤ 122) := by
  have e : s.data.toList = s[0] :: s.data.toList.tail := by
    have hl : 0 < s.data.toList.length := h
    cases hd : s.data.toList with
    | nil => rw [hd] at hl; simp at hl
    | cons a r =>
      have : s[0] = a := by
        have h1 : s.data.toList[0] = a := by simp [hd]
        exact h1
      rw [this]; rfl
  unfold headOk
  rw [e]

theorem all_take_succ (s : ByteArray) (p : UInt8 → Bool) (k : Nat) (h : k < s.size) : (s.data.toList.take (k + 1)).all p = ((s.data.toList.take k).all p && p s[k]) := by
  have e : s.data.toList.take (k + 1) = s.data.toList.take k ++ [s[k]] := by
    rw [List.take_succ_eq_append_getElem (by simpa using h)]; rfl
  rw [e, List.all_append]; simp

theorem all_of_take {s : ByteArray} {p : UInt8 → Bool} {k : Nat} (h : k < s.size) (hp : p s[k] = false) : s.data.toList.all p = false := by
  have : s[k] ∈ s.data.toList := by
    have : s[k] = s.data.toList[k]'(by simpa using h) := rfl
    rw [this]; exact List.getElem_mem _
  rw [← Bool.not_eq_true, List.all_eq_true]
  intro hall
  rw [hall _ this] at hp
  cases hp

set_option maxHeartbeats 800000 in
theorem sname_any (s : ByteArray) (w : World) (hs : s.size ≤ maxLen) : Calls Try.prog 42 #[.string s] w (PBool (nameB s) w) := by
  unfold maxLen at hs
  by_cases h0 : s.size = 0
  · have e : s = ByteArray.empty := by
      cases s with | mk d => simp [ByteArray.size] at h0; subst h0; rfl
    subst e
    go_enter Try.func42, Try.ntmps42
    go_wp2
    go_ret
    exact PBool.mk (by rfl) (Grew.refl _)
  · have hpos : 0 < s.size := by omega
    have hne : s.toList.isEmpty = false := by
      have : s.toList ≠ [] := by
        intro e
        rw [ByteArray.toList_eq] at e
        apply h0
        have := congrArg List.length e
        exact this
      cases hh : s.toList with
      | nil => exact absurd hh this
      | cons a r => rfl
    have hne' : ¬ s.toList = [] := by intro e; rw [e] at hne; simp at hne
    have HH := Lib.hid (headOk_eq s hpos)
    have H0 := Lib.hid h0
    clear h0
    go_enter Try.func42, Try.ntmps42
    go_wp2
    · go_ret
      exact PBool.mk (by simp only [nameB, HH.out]; simp at *; omega) (Grew.refl _)
    · go_loop [24] (fun i => ∃ k : Nat, k ≤ s.size ∧ i = .int .i64 k ∧ Hid ((s.data.toList.take k).all okChar = true)) (fun i => s.size - (intOf i).toNat)
      case atStart => exact ⟨0, Nat.zero_le _, rfl, Lib.hid (by simp)⟩
      case round =>
        obtain ⟨k, hk, rfl, hall⟩ := hrel
        by_cases hlt : k < s.size
        · have HS := Lib.hid (all_take_succ s okChar k hlt)
          have HF := Lib.hid (@all_of_take s okChar k hlt)
          go_wp2
          all_goals first
            | (go_ret
               refine PBool.mk ?_ (Grew.refl _)
               have : okChar s[k] = false := by simp [okChar]; simp at *; omega
               simp [nameB, HF.out this])
            | (go_round
               case rel =>
                 refine ⟨k + 1, by omega, by go_num, Lib.hid ?_⟩
                 rw [HS.out, hall.out]
                 simp [okChar]; simp at *; omega
               case measure => simp [intOf]; omega)
        · go_wp2
          go_ret
          refine PBool.mk ?_ (Grew.refl _)
          have hk' : k = s.size := by omega
          have ha := hall.out
          rw [List.take_of_length_le (by simp [hk'])] at ha
          simp only [nameB, HH.out, ha]
          simp at *; omega
    · go_ret
      exact PBool.mk (by simp only [nameB, HH.out]; simp at *; omega) (Grew.refl _)
    · go_ret
      exact PBool.mk (by simp only [nameB, HH.out]; simp at *; omega) (Grew.refl _)

set_option maxHeartbeats 800000 in
theorem rname_any (s : ByteArray) (w : World) (hs : s.size ≤ maxLen) : Calls Try.prog 32 #[.string s] w (PBool (nameB s) w) := by
  unfold maxLen at hs
  by_cases h0 : s.size = 0
  · have e : s = ByteArray.empty := by
      cases s with | mk d => simp [ByteArray.size] at h0; subst h0; rfl
    subst e
    go_enter Try.func32, Try.ntmps32
    go_wp2
    go_ret
    exact PBool.mk (by rfl) (Grew.refl _)
  · have hpos : 0 < s.size := by omega
    have HH := Lib.hid (headOk_eq s hpos)
    have H0 := Lib.hid h0
    clear h0
    go_enter Try.func32, Try.ntmps32
    go_wp2
    · go_ret
      exact PBool.mk (by simp only [nameB, HH.out]; simp at *; omega) (Grew.refl _)
    · go_loop [3] (fun i => ∃ k : Nat, k ≤ s.size ∧ i = .int .i64 k ∧ Hid ((s.data.toList.take k).all okChar = true)) (fun i => s.size - (intOf i).toNat)
      case atStart => exact ⟨0, Nat.zero_le _, rfl, Lib.hid (by simp)⟩
      case round =>
        obtain ⟨k, hk, rfl, hall⟩ := hrel
        by_cases hlt : k < s.size
        · have HS := Lib.hid (all_take_succ s okChar k hlt)
          have HF := Lib.hid (@all_of_take s okChar k hlt)
          go_wp2
          all_goals first
            | (go_ret
               refine PBool.mk ?_ (Grew.refl _)
               have : okChar s[k] = false := by simp [okChar]; simp at *; omega
               simp [nameB, HF.out this])
            | (go_round
               case rel =>
                 refine ⟨k + 1, by omega, by go_num, Lib.hid ?_⟩
                 rw [HS.out, hall.out]
                 simp [okChar]; simp at *; omega
               case measure => simp [intOf]; omega)
        · go_wp2
          go_ret
          refine PBool.mk ?_ (Grew.refl _)
          have hk' : k = s.size := by omega
          have ha := hall.out
          rw [List.take_of_length_le (by simp [hk'])] at ha
          simp only [nameB, HH.out, ha]
          simp at *; omega
    · go_ret
      exact PBool.mk (by simp only [nameB, HH.out]; simp at *; omega) (Grew.refl _)
    · go_ret
      exact PBool.mk (by simp only [nameB, HH.out]; simp at *; omega) (Grew.refl _)

set_option maxHeartbeats 400000 in
theorem clock_any (n : Int) (w : World) : Calls Try.prog 43 #[.int .i64 n] w fun e w' => e = .returned (.bool (inB 0 1099511627776 n)) ∧ w = w' := by
  go_enter Try.func43, Try.ntmps43
  go_wp2
  all_goals
    go_ret
    exact ⟨by simp [inB]; omega, rfl⟩
set_option maxHeartbeats 400000 in
theorem rtime_any (n : Int) (w : World) : Calls Try.prog 33 #[.int .i64 n] w fun e w' => e = .returned (.bool (inB 0 1099511627776 n)) ∧ w = w' := by
  go_enter Try.func33, Try.ntmps33
  go_wp2
  all_goals
    go_ret
    exact ⟨by simp [inB]; omega, rfl⟩
set_option maxHeartbeats 400000 in
theorem within_any (n : Int) (w : World) : Calls Try.prog 57 #[.int .i64 n] w fun e w' => e = .returned (.bool (inB 1 1099511627776 n)) ∧ w = w' := by
  go_enter Try.func57, Try.ntmps57
  go_wp2
  all_goals
    go_ret
    exact ⟨by simp [inB]; omega, rfl⟩
set_option maxHeartbeats 800000 in
theorem mcheck_any (c i q : Int) (w : World) : Calls Try.prog 44 #[.agg #[.int .i64 c, .int .i64 i, .int .i64 q]] w (PInt (errOf (stB c i q)) w) := by
  go_enter Try.func44, Try.ntmps44
  go_wp2_with (go_at_call 57; refine (within_any _ _).mono ?_; rintro e w' ⟨rfl, rfl⟩)
  all_goals
    go_ret
    refine PInt.mk ?_ ((Grew.refl _).alloc _)
    simp_all [errOf, stB, inB]
    try omega
set_option maxHeartbeats 800000 in
theorem rcheck_any (c i q : Int) (w : World) : Calls Try.prog 34 #[.agg #[.int .i64 c, .int .i64 i, .int .i64 q]] w (PInt (errOf (stB c i q)) w) := by
  go_enter Try.func34, Try.ntmps34
  go_wp2
  all_goals
    go_ret
    refine PInt.mk ?_ ((Grew.refl _).alloc _)
    simp_all [errOf, stB, inB]
    try omega
end Go.Proofs.Ytmlelggakadpdaa
