/-
  Acknowledging what was handed to a node: what is left for it, and for the others; keeping points for all nodes. Plain Lean.
-/
import Derived.Test.YtmlelggakadpdaaDrpP
namespace Go.Proofs.Ytmlelggakadpdaa

/-- The hints without those of the node for the points of the list. -/
def ackM (M : List Hnt) (a : Int) (l : List Pt) : List Hnt := M.filter (fun x => !(decide (x.n = a) && decide (x.p ∈ l)))
theorem ackL_acc (a : Int) : ∀ (l : List Pt) (M : List Hnt) (c : Nat), l.Nodup → (∀ p ∈ l, (⟨p, a⟩ : Hnt) ∈ M) → l.foldl (ackStep a) (M, c) = (ackM M a l, c + l.length)
  | [], M, c, _, _ => by
    have : ackM M a [] = M := List.filter_eq_self.2 (by simp)
    simp [this]
  | p :: l, M, c, hn, h => by
    rw [List.nodup_cons] at hn
    have h0 : (⟨p, a⟩ : Hnt) ∈ M := h p (by simp)
    rw [List.foldl_cons]
    have e : ackStep a (M, c) p = (strike M ⟨p, a⟩, c + 1) := by unfold ackStep; rw [if_pos h0]
    rw [e, ackL_acc a l (strike M ⟨p, a⟩) (c + 1) hn.2 (fun q hq => by
      unfold strike
      refine List.mem_filter.2 ⟨h q (by simp [hq]), ?_⟩
      simp
      rintro rfl
      exact hn.1 hq)]
    have e2 : ackM (strike M ⟨p, a⟩) a l = ackM M a (p :: l) := by
      unfold ackM strike
      rw [List.filter_filter]
      refine List.filter_congr fun x _ => ?_
      obtain ⟨xp, xn⟩ := x
      by_cases h1 : xn = a <;> by_cases h2 : xp = p <;> by_cases h3 : xp ∈ l <;> simp [h1, h2, h3]
    rw [e2, List.length_cons]
    congr 1
    omega
theorem ackL_all {M : List Hnt} {a : Int} {l : List Pt} (hn : l.Nodup) (h : ∀ p ∈ l, (⟨p, a⟩ : Hnt) ∈ M) : ackL M a l = (ackM M a l, l.length) := by
  unfold ackL
  rw [ackL_acc a l M 0 hn h, Nat.zero_add]
theorem ackL_acc_none (a : Int) : ∀ (l : List Pt) (M : List Hnt) (c : Nat), (∀ p ∈ l, (⟨p, a⟩ : Hnt) ∉ M) → l.foldl (ackStep a) (M, c) = (M, c)
  | [], _, _, _ => rfl
  | p :: l, M, c, h => by
    rw [List.foldl_cons]
    have e : ackStep a (M, c) p = (M, c) := by unfold ackStep; rw [if_neg (h p (by simp))]
    rw [e]
    exact ackL_acc_none a l M c (fun q hq => h q (by simp [hq]))
theorem ackL_twice {M : List Hnt} {a : Int} {l : List Pt} : ackL (ackM M a l) a l = (ackM M a l, 0) := by
  refine ackL_acc_none a l _ 0 fun p hp hin => ?_
  have := (List.mem_filter.1 hin).2
  simp [hp] at this
theorem ackM_le (M : List Hnt) (a : Int) (l : List Pt) : (ackM M a l).length ≤ M.length := List.length_filter_le _ _
theorem ackM_sub {M : List Hnt} {a : Int} {l : List Pt} {x : Hnt} (h : x ∈ ackM M a l) : x ∈ M := (List.mem_filter.1 h).1

theorem mem_ptsFor (M : List Hnt) (a : Int) (p : Pt) : p ∈ ptsFor M a ↔ (⟨p, a⟩ : Hnt) ∈ M := by
  unfold ptsFor
  rw [(sortP_perm _).mem_iff, List.mem_map]
  constructor
  · rintro ⟨x, hx, rfl⟩
    have := List.mem_filter.1 hx
    have e : x.n = a := by simpa using this.2
    subst e
    exact this.1
  · intro h
    exact ⟨⟨p, a⟩, List.mem_filter.2 ⟨h, by simp⟩, rfl⟩
theorem ptsFor_nodup {M : List Hnt} (h : M.Nodup) (a : Int) : (ptsFor M a).Nodup := by
  unfold ptsFor
  rw [(sortP_perm _).nodup_iff]
  refine List.Pairwise.map _ (R := fun x y : Hnt => x ≠ y ∧ x.n = a ∧ y.n = a) ?_ ?_
  · rintro ⟨p, n⟩ ⟨q, k⟩ ⟨hne, h1, h2⟩ e
    simp at h1 h2 e
    exact hne (by rw [h1, h2, e])
  · have h1 := h.filter (fun x => decide (x.n = a))
    refine List.Pairwise.imp_of_mem ?_ h1
    intro x y hx hy hne
    have hx' := (List.mem_filter.1 hx).2
    have hy' := (List.mem_filter.1 hy).2
    exact ⟨hne, by simpa using hx', by simpa using hy'⟩
theorem filter_not_take {S : List Pt} (h : S.Nodup) (n : Nat) : S.filter (fun p => !decide (p ∈ S.take n)) = S.drop n := by
  conv => lhs; rw [show S.filter (fun p => !decide (p ∈ S.take n)) = (S.take n ++ S.drop n).filter (fun p => !decide (p ∈ S.take n)) by rw [List.take_append_drop]]
  rw [List.filter_append]
  have h1 : (S.take n).filter (fun p => !decide (p ∈ S.take n)) = [] := List.filter_eq_nil_iff.2 fun p hp => by simp [hp]
  have h2 : (S.drop n).filter (fun p => !decide (p ∈ S.take n)) = S.drop n := List.filter_eq_self.2 fun p hp => by
    have hd : (S.take n ++ S.drop n).Nodup := by rw [List.take_append_drop]; exact h
    rw [List.nodup_append] at hd
    have : p ∉ S.take n := fun hin => hd.2.2 p hin p hp rfl
    simp [this]
  rw [h1, h2, List.nil_append]
theorem ptsFor_ack (M : List Hnt) (a : Int) (l : List Pt) : ptsFor (ackM M a l) a = (ptsFor M a).filter (fun p => !decide (p ∈ l)) := by
  unfold ptsFor
  rw [← sortP_filter]
  congr 1
  unfold ackM
  rw [List.filter_map, List.filter_filter, List.filter_filter]
  congr 1
  refine List.filter_congr fun x _ => ?_
  simp only [Function.comp]
  by_cases h1 : x.n = a <;> simp [h1]
theorem ptsFor_ack_other (M : List Hnt) {a b : Int} (l : List Pt) (h : b ≠ a) : ptsFor (ackM M a l) b = ptsFor M b := by
  unfold ptsFor
  congr 2
  unfold ackM
  rw [List.filter_filter]
  refine List.filter_congr fun x _ => ?_
  by_cases h1 : x.n = b
  · subst h1; simp [h]
  · simp [h1]
theorem forL_take (M : List Hnt) (a : Int) (n : Nat) : forL M a n = (ptsFor M a).take n := by
  unfold forL
  congr 1
  omega

end Go.Proofs.Ytmlelggakadpdaa
