/-
  Forgetting and handing on: what is left of the points for a node, and how many are gone over all nodes. Plain Lean.
-/
import Derived.Test.YtmlelggakadpdaaImp5
import Derived.Test.YtmlelggakadpdaaNodP
namespace Go.Proofs.Ytmlelggakadpdaa

theorem length_ptsFor (M : List Hnt) (a : Int) : (ptsFor M a).length = (M.filter (fun x => decide (x.n = a))).length := by
  unfold ptsFor
  rw [length_sortP, List.length_map]
theorem forL_all {M : List Hnt} (h : (M.length : Int) ≤ 600) (a : Int) : forL M a 600 = ptsFor M a := by
  unfold forL
  rw [List.take_of_length_le]
  rw [length_ptsFor]
  have := List.length_filter_le (fun x : Hnt => decide (x.n = a)) M
  omega
theorem sortP_filter (B : List Pt) (q : Pt → Bool) : sortP (B.filter q) = (sortP B).filter q := by
  have hp : (sortP (B.filter q)).Perm ((sortP B).filter q) := (sortP_perm _).trans ((sortP_perm B).symm.filter q)
  exact hp.eq_of_pairwise (fun a b _ _ h1 h2 => totP a b h2 h1) (sortP_sorted _) ((sortP_sorted B).filter q)
theorem ptsFor_drop (M : List Hnt) (t a : Int) : ptsFor (dropL M t) a = (ptsFor M a).filter (fun p => decide (t ≤ p.t)) := by
  unfold ptsFor
  rw [← sortP_filter]
  congr 1
  unfold dropL
  rw [List.filter_map, List.filter_filter, List.filter_filter]
  congr 1
  refine List.filter_congr fun x _ => ?_
  simp only [Function.comp]
  by_cases h1 : x.n = a <;> by_cases h2 : x.p.t < t
  · have : ¬ t ≤ x.p.t := by omega
    simp [h1, h2, this]
  · have : t ≤ x.p.t := by omega
    simp [h1, h2, this]
  · simp [h1]
  · simp [h1]
theorem dropL_twice (M : List Hnt) (t : Int) : dropL (dropL M t) t = dropL M t := by
  unfold dropL
  rw [List.filter_filter]
  congr 1; funext x; simp
theorem dropL_le (M : List Hnt) (t : Int) : (dropL M t).length ≤ M.length := List.length_filter_le _ _
theorem sum_ind (all : List Int) (hn : all.Nodup) (x : Int) (h : x ∈ all) : (all.map (fun a => if x = a then 1 else 0)).sum = 1 := by
  induction all with
  | nil => simp at h
  | cons a r ih =>
    rw [List.nodup_cons] at hn
    rw [List.map_cons, List.sum_cons]
    by_cases e : x = a
    · subst e
      have h0 : (r.map (fun a => if x = a then 1 else 0)).sum = 0 := by
        have : ∀ (s : List Int), x ∉ s → (s.map (fun a => if x = a then 1 else 0)).sum = 0 := by
          intro s
          induction s with
          | nil => intro _; rfl
          | cons b s ihs =>
            intro hb
            simp only [List.mem_cons, not_or] at hb
            rw [List.map_cons, List.sum_cons, if_neg hb.1, ihs hb.2]
        exact this r hn.1
      rw [if_pos rfl, h0]
    · rw [if_neg e, ih hn.2 (by simpa [e] using h)]
theorem sum_add {α : Type} (l : List α) (f g : α → Nat) : (l.map (fun a => f a + g a)).sum = (l.map f).sum + (l.map g).sum := by
  induction l with
  | nil => rfl
  | cons a r ih => simp only [List.map_cons, List.sum_cons, ih]; omega
theorem sum_filter (all : List Int) (hn : all.Nodup) (q : Hnt → Bool) : ∀ (L : List Hnt), (∀ x ∈ L, x.n ∈ all) → (all.map (fun a => (L.filter (fun x => decide (x.n = a) && q x)).length)).sum = (L.filter q).length
  | [], _ => by
    have : ∀ (s : List Int), (s.map (fun _ => 0)).sum = 0 := by intro s; induction s <;> simp_all
    simpa using this all
  | x :: L, h => by
    have ih := sum_filter all hn q L (fun y hy => h y (by simp [hy]))
    by_cases hq : q x = true
    · rw [List.filter_cons_of_pos (by simpa using hq), List.length_cons, ← ih]
      have e : (fun a => ((x :: L).filter (fun x => decide (x.n = a) && q x)).length) = fun a => (L.filter (fun x => decide (x.n = a) && q x)).length + if x.n = a then 1 else 0 := by
        funext a
        by_cases ha : x.n = a
        · rw [List.filter_cons_of_pos (by simp [ha, hq]), List.length_cons, if_pos ha]
        · rw [List.filter_cons_of_neg (by simp [ha]), if_neg ha]; rfl
      rw [e, sum_add, sum_ind all hn x.n (h x (by simp))]
    · have hq' : q x = false := by simpa using hq
      rw [List.filter_cons_of_neg (by simpa using hq), ← ih]
      congr 2
      funext a
      rw [List.filter_cons_of_neg (by simp [hq'])]
/-- How many are gone, over the nodes of the list. -/
def goneOf (M : List Hnt) (t : Int) (l : List Int) : Nat := (l.map (fun a => ((ptsFor M a).filter (fun p => !decide (t ≤ p.t))).length)).sum
theorem goneOf_succ {M : List Hnt} {t : Int} {l : List Int} {k : Nat} {a : Int} (h : l[k]? = some a) : goneOf M t (l.take (k + 1)) = goneOf M t (l.take k) + ((ptsFor M a).filter (fun p => !decide (t ≤ p.t))).length := by
  unfold goneOf
  rw [List.take_add_one, h, List.map_append, List.sum_append]; simp
theorem goneOf_all (M : List Hnt) (t : Int) (all : List Int) (hn : all.Nodup) (h : ∀ x ∈ M, x.n ∈ all) : goneOf M t all + (dropL M t).length = M.length := by
  have e : goneOf M t all = (M.filter (fun x => !decide (t ≤ x.p.t))).length := by
    rw [← sum_filter all hn (fun x => !decide (t ≤ x.p.t)) M h]
    unfold goneOf
    congr 2
    funext a
    have hp : ((ptsFor M a).filter (fun p => !decide (t ≤ p.t))).Perm (((M.filter (fun x => decide (x.n = a))).map (·.p)).filter (fun p => !decide (t ≤ p.t))) := (sortP_perm _).filter _
    rw [hp.length_eq, List.filter_map, List.length_map, List.filter_filter]
    congr 1
    refine List.filter_congr fun x _ => ?_
    simp only [Function.comp]
    rw [Bool.and_comm]
  rw [e]
  unfold dropL
  clear e h hn
  induction M with
  | nil => rfl
  | cons x M ih =>
    by_cases h2 : x.p.t < t
    · have h3 : ¬ t ≤ x.p.t := by omega
      rw [List.filter_cons_of_pos (by simp [h3]), List.filter_cons_of_neg (by simp [h2]), List.length_cons, List.length_cons]
      omega
    · have h3 : t ≤ x.p.t := by omega
      rw [List.filter_cons_of_neg (by simp [h3]), List.filter_cons_of_pos (by simp [h2]), List.length_cons, List.length_cons]
      omega
theorem goneOf_le (M : List Hnt) (t : Int) (l : List Int) : goneOf M t l ≤ l.length * M.length := by
  unfold goneOf
  induction l with
  | nil => simp
  | cons a r ih =>
    rw [List.map_cons, List.sum_cons, List.length_cons, Nat.add_mul]
    have h1 := List.length_filter_le (fun p : Pt => !decide (t ≤ p.t)) (ptsFor M a)
    have h2 := List.length_filter_le (fun x : Hnt => decide (x.n = a)) M
    rw [length_ptsFor] at h1
    omega
theorem ref9_nodup (l : List Int) : (ref9 l).Nodup := (ref9_sorted l).imp (fun h => Int.ne_of_lt h)
theorem length_ref9 (l : List Int) : (ref9 l).length ≤ 16 := by
  unfold ref9
  have := List.length_filter_le (fun n => decide (n ∈ l)) ((List.range 16).map Int.ofNat)
  simpa using this
end Go.Proofs.Ytmlelggakadpdaa
