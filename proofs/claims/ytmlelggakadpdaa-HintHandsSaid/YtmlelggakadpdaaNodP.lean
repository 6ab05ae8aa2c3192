/-
  Sorting and taking runs of equals once, of nodes from 0 to 15: what comes is the reference's list of nodes. Plain Lean.
-/
import Derived.Test.YtmlelggakadpdaaImp4
namespace Go.Proofs.Ytmlelggakadpdaa

theorem keepsUpTo (d : Array Int) (hs : ∀ i j, i ≤ j → j < d.size → d[i]! ≤ d[j]!) : ∀ m, m ≤ d.size → (Lib.compactUpTo d m).Pairwise (· < ·) ∧ ∀ x, x ∈ Lib.compactUpTo d m ↔ ∃ j, j < m ∧ d[j]! = x
  | 0, _ => by simp [Lib.compactUpTo]
  | m + 1, hm => by
    obtain ⟨h1, h2⟩ := keepsUpTo d hs m (by omega)
    rw [Lib.compactUpTo_succ]
    by_cases hk : Lib.keeps d m = true
    · rw [if_pos hk]
      refine ⟨?_, fun x => ?_⟩
      · rw [List.pairwise_append]
        refine ⟨h1, by simp, fun a ha c hc => ?_⟩
        simp at hc
        subst hc
        obtain ⟨j, hj, rfl⟩ := (h2 a).1 ha
        have h3 := hs j (m - 1) (by omega) (by omega)
        have h4 := hs (m - 1) m (by omega) (by omega)
        have h5 : d[m - 1]! ≠ d[m]! := by
          simp [Lib.keeps] at hk
          rcases hk with hk | hk
          · omega
          · exact fun e => hk (by first | exact e | exact e.symm)
        omega
      · rw [List.mem_append, h2]
        constructor
        · rintro (⟨j, hj, rfl⟩ | hx)
          · exact ⟨j, by omega, rfl⟩
          · simp at hx; exact ⟨m, by omega, hx.symm⟩
        · rintro ⟨j, hj, rfl⟩
          by_cases e : j = m
          · subst e; exact .inr (by simp)
          · exact .inl ⟨j, by omega, rfl⟩
    · rw [if_neg hk, List.append_nil]
      refine ⟨h1, fun x => ?_⟩
      rw [h2]
      constructor
      · rintro ⟨j, hj, rfl⟩; exact ⟨j, by omega, rfl⟩
      · rintro ⟨j, hj, rfl⟩
        by_cases e : j = m
        · subst e
          simp [Lib.keeps] at hk
          refine ⟨j - 1, by omega, ?_⟩
          first | exact hk.2 | exact hk.2.symm
        · exact ⟨j, by omega, rfl⟩
theorem compI_sorted (l : List Int) (h : l.Pairwise (· ≤ ·)) : (compI l).Pairwise (· < ·) ∧ ∀ x, x ∈ compI l ↔ x ∈ l := by
  have hs : ∀ i j, i ≤ j → j < l.toArray.size → l.toArray[i]! ≤ l.toArray[j]! := by
    intro i j hij hj
    have hj' : j < l.length := by simpa using hj
    rw [getElem!_pos l.toArray i (by simp; omega), getElem!_pos l.toArray j hj]
    by_cases e : i = j
    · subst e; exact Int.le_refl _
    · have := List.pairwise_iff_getElem.1 h i j (by omega) hj' (by omega)
      simpa using this
  obtain ⟨h1, h2⟩ := keepsUpTo l.toArray hs l.length (by simp)
  refine ⟨h1, fun x => (h2 x).trans ?_⟩
  constructor
  · rintro ⟨j, hj, rfl⟩
    rw [getElem!_pos l.toArray j (by simpa using hj)]
    simp
  · intro hx
    obtain ⟨j, hj, rfl⟩ := List.mem_iff_getElem.1 hx
    exact ⟨j, hj, by rw [getElem!_pos l.toArray j (by simpa using hj)]; simp⟩
/-- The nodes from 0 to 15 that are in the list, rising. -/
def ref9 (l : List Int) : List Int := ((List.range 16).map Int.ofNat).filter (fun n => decide (n ∈ l))
theorem range16_sorted : ((List.range 16).map Int.ofNat).Pairwise (· < ·) := by
  refine List.Pairwise.map _ ?_ List.pairwise_lt_range
  intro a b h
  simpa using h
theorem ref9_sorted (l : List Int) : (ref9 l).Pairwise (· < ·) := range16_sorted.filter _
theorem mem_ref9 (l : List Int) (x : Int) : x ∈ ref9 l ↔ x ∈ l ∧ 0 ≤ x ∧ x < 16 := by
  unfold ref9
  rw [List.mem_filter, List.mem_map]
  simp
  constructor
  · rintro ⟨⟨a, ha, rfl⟩, hx⟩; exact ⟨hx, by omega, by omega⟩
  · rintro ⟨hx, h0, h1⟩; exact ⟨⟨x.toNat, by omega, by omega⟩, hx⟩
theorem eq_of_sorted {l m : List Int} (h1 : l.Pairwise (· < ·)) (h2 : m.Pairwise (· < ·)) (h : ∀ x, x ∈ l ↔ x ∈ m) : l = m := by
  have n1 : l.Nodup := h1.imp (fun h => Int.ne_of_lt h)
  have n2 : m.Nodup := h2.imp (fun h => Int.ne_of_lt h)
  have hp : l.Perm m := (List.perm_ext_iff_of_nodup n1 n2).2 h
  exact hp.eq_of_pairwise (fun a b _ _ h1 h2 => by omega) h1 h2
theorem comp_sort_eq (l : List Int) (h : ∀ x ∈ l, 0 ≤ x ∧ x < 16) : compI (sortI l) = ref9 l := by
  obtain ⟨h1, h2⟩ := compI_sorted _ (sortI_sorted l)
  refine eq_of_sorted h1 (ref9_sorted l) fun x => ?_
  rw [h2, mem_ref9, (sortI_perm l).mem_iff]
  exact ⟨fun hx => ⟨hx, h x hx⟩, fun hx => hx.1⟩
/-- All nodes of hints lie between 0 and 15. -/
def NodesIn (M : List Hnt) : Prop := ∀ x ∈ M, 0 ≤ x.n ∧ x.n < 16
theorem nodesOf_eq {M : List Hnt} (h : NodesIn M) (f : Pt → Bool) : nodesOf M f = ref9 ((M.filter (fun x => f x.p)).map (·.n)) := by
  refine comp_sort_eq _ fun x hx => ?_
  obtain ⟨y, hy, rfl⟩ := List.mem_map.1 hx
  exact h y (List.mem_filter.1 hy).1
theorem moreOf_in (M : List Hnt) (p : Pt) (nodes : List Int) : NodesIn (moreOf M p nodes 16) := by
  intro x hx
  unfold moreOf at hx
  obtain ⟨n, hn, rfl⟩ := List.mem_map.1 hx
  have := (List.mem_filter.1 hn).1
  simp at this
  exact ⟨by simp, by show (n : Int) < 16; omega⟩
theorem NodesIn.add {M : List Hnt} (h : NodesIn M) (most : Int) (p : Pt) (nodes : List Int) : NodesIn (addR M most p nodes).2 := by
  unfold addR
  split
  · intro x hx
    rcases List.mem_append.1 hx with hx | hx
    · exact h x hx
    · exact moreOf_in M p nodes x hx
  · exact h
theorem mem_moreOf (M : List Hnt) (p : Pt) (nodes : List Int) (x : Hnt) : x ∈ moreOf M p nodes 16 ↔ x.p = p ∧ x.n ∈ nodes ∧ (0 ≤ x.n ∧ x.n < 16) ∧ x ∉ M := by
  unfold moreOf
  rw [List.mem_map]
  constructor
  · rintro ⟨n, hn, rfl⟩
    have := List.mem_filter.1 hn
    simp at this
    exact ⟨rfl, this.2.1, ⟨by simp, by show (n : Int) < 16; omega⟩, this.2.2⟩
  · rintro ⟨rfl, h1, ⟨h2, h3⟩, h4⟩
    obtain ⟨p, n⟩ := x
    simp at h2 h3
    refine ⟨n.toNat, List.mem_filter.2 ⟨by simp; omega, ?_⟩, ?_⟩
    · have : ((n.toNat : Nat) : Int) = n := by omega
      simp [this, h1, h4]
    · have : ((n.toNat : Nat) : Int) = n := by omega
      simp [this]
theorem moreOf_map (M : List Hnt) (p : Pt) (nodes : List Int) : (moreOf M p nodes 16).map (·.n) = (ref9 nodes).filter (fun n => decide ((⟨p, n⟩ : Hnt) ∉ M)) := by
  have h1 : ((moreOf M p nodes 16).map (·.n)).Pairwise (· < ·) := by
    unfold moreOf
    rw [List.map_map]
    refine List.Pairwise.map _ ?_ ((List.pairwise_lt_range (n := 16)).filter _)
    intro a b h
    simpa using h
  refine eq_of_sorted h1 ((ref9_sorted nodes).filter _) fun x => ?_
  rw [List.mem_filter, mem_ref9, List.mem_map]
  constructor
  · rintro ⟨y, hy, rfl⟩
    obtain ⟨e, k1, k2, k3⟩ := (mem_moreOf M p nodes y).1 hy
    subst e
    exact ⟨⟨k1, k2⟩, by simpa using k3⟩
  · rintro ⟨⟨h1, h2⟩, h3⟩
    exact ⟨⟨p, x⟩, (mem_moreOf M p nodes ⟨p, x⟩).2 ⟨rfl, h1, h2, by simpa using h3⟩, rfl⟩
end Go.Proofs.Ytmlelggakadpdaa
