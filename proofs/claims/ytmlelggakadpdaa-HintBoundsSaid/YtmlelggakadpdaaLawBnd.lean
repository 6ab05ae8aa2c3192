/-
  The statement HintBounds: what is kept call by call, and the walk of the law, in every world.
-/
import Derived.Test.YtmlelggakadpdaaLaw0
import Derived.Test.YtmlelggakadpdaaNodP
import Derived.Deep.Cut
namespace Go.Proofs.Ytmlelggakadpdaa
open Go.RowKit

def ints (m : Nat) : List Int := (List.range m).map Int.ofNat
theorem length_ints (m : Nat) : (ints m).length = m := by simp [ints]
theorem ints_succ (m : Nat) : ints (m + 1) = ints m ++ [(m : Int)] := by simp [ints, List.range_succ]
theorem mem_ints (m : Nat) (x : Int) : x ∈ ints m ↔ 0 ≤ x ∧ x < m := by
  simp [ints]
  constructor
  · rintro ⟨a, ha, rfl⟩; omega
  · rintro ⟨h0, h1⟩; exact ⟨x.toNat, by omega, by omega⟩
theorem ints_sorted (m : Nat) : (ints m).Pairwise (· < ·) := by
  refine List.Pairwise.map _ ?_ List.pairwise_lt_range
  intro a b h
  simpa using h
theorem ref9_ints {m : Nat} (h : m ≤ 16) : ref9 (ints m) = ints m :=
  eq_of_sorted (ref9_sorted _) (ints_sorted m) fun x => by rw [mem_ref9, mem_ints]; omega

/-- What is kept after i calls. -/
def bndM (k m : Nat) : Nat → List Hnt
  | 0 => []
  | i + 1 => if (bndM k m i).length + m ≤ k then bndM k m i ++ (ints m).map (fun n => ⟨lawPt i, n⟩) else bndM k m i
theorem bndM_succ (k m i : Nat) : bndM k m (i + 1) = if (bndM k m i).length + m ≤ k then bndM k m i ++ (ints m).map (fun n => ⟨lawPt i, n⟩) else bndM k m i := rfl
theorem bndM_le (k m : Nat) : ∀ i, (bndM k m i).length ≤ k
  | 0 => by simp [bndM]
  | i + 1 => by
    have := bndM_le k m i
    rw [bndM_succ]
    split
    · simp [length_ints]; omega
    · exact this
theorem length_bndM (k m i : Nat) : (bndM k m (i + 1)).length = (bndM k m i).length + if (bndM k m i).length + m ≤ k then m else 0 := by
  rw [bndM_succ]
  split
  · simp [length_ints]
  · simp
theorem bndM_old (k m : Nat) : ∀ i, ∀ x ∈ bndM k m i, x.p.t < i
  | 0 => by simp [bndM]
  | i + 1 => by
    intro x hx
    have ih := bndM_old k m i
    rw [bndM_succ] at hx
    split at hx
    · rcases List.mem_append.1 hx with hx | hx
      · have := ih x hx; omega
      · obtain ⟨n, _, rfl⟩ := List.mem_map.1 hx
        show (lawPt i).t < _
        simp [lawPt]; omega
    · have := ih x hx; omega
theorem bndM_in {k m : Nat} (hm : m ≤ 16) : ∀ i, NodesIn (bndM k m i)
  | 0 => by intro x hx; simp [bndM] at hx
  | i + 1 => by
    intro x hx
    have ih := bndM_in (k := k) hm i
    rw [bndM_succ] at hx
    split at hx
    · rcases List.mem_append.1 hx with hx | hx
      · exact ih x hx
      · obtain ⟨n, hn, rfl⟩ := List.mem_map.1 hx
        have := (mem_ints m n).1 hn
        exact ⟨by show 0 ≤ n; omega, by show n < 16; omega⟩
    · exact ih x hx
theorem lawPt_not {k m i : Nat} {x : Hnt} (h : x ∈ bndM k m i) : x.p ≠ lawPt i := fun e => by
  have := bndM_old k m i x h
  rw [e] at this
  simp [lawPt] at this
theorem lawPt_ok {t : Int} (h0 : 0 ≤ t) (h1 : t ≤ 1099511627776) : ptB (lawPt t).s (lawPt t).t (lawPt t).c (lawPt t).i (lawPt t).q = true := by
  have h2 : nameB aName = true := by decide +kernel
  have h3 : stB 1 0 1 = true := by decide +kernel
  simp [ptB, lawPt, h2, h3, inB, h0, h1]
theorem more_bnd {k m i : Nat} (hm : m ≤ 16) : moreOf (bndM k m i) (lawPt i) (ints m) 16 = (ints m).map (fun n => ⟨lawPt i, n⟩) := by
  have h1 := moreOf_map (bndM k m i) (lawPt i) (ints m)
  rw [ref9_ints hm, List.filter_eq_self.2 (fun n _ => by simp; exact fun h => lawPt_not h rfl)] at h1
  have h2 : ∀ x ∈ moreOf (bndM k m i) (lawPt i) (ints m) 16, x = ⟨lawPt i, x.n⟩ := fun x hx => by
    obtain ⟨e, _⟩ := (mem_moreOf _ _ _ _).1 hx
    cases x; simp at e; simp [e]
  calc moreOf (bndM k m i) (lawPt i) (ints m) 16 = (moreOf (bndM k m i) (lawPt i) (ints m) 16).map (fun x => ⟨lawPt i, x.n⟩) := by
        conv => lhs; rw [← List.map_id (moreOf (bndM k m i) (lawPt i) (ints m) 16)]
        exact List.map_congr_left fun x hx => h2 x hx
    _ = ((moreOf (bndM k m i) (lawPt i) (ints m) 16).map (·.n)).map (fun n => ⟨lawPt i, n⟩) := by rw [List.map_map]; rfl
    _ = _ := by rw [h1]
theorem add_bnd {k m i : Nat} (hm : m ≤ 16) (hi : i ≤ 1000) : addR (bndM k m i) k (lawPt i) (ints m) = (decide ((bndM k m i).length + m ≤ k), bndM k m (i + 1)) := by
  unfold addR
  rw [more_bnd hm, lawPt_ok (by omega) (by omega), bndM_succ]
  by_cases h : (bndM k m i).length + m ≤ k
  · have h' : ((bndM k m i).length : Int) + m ≤ k := by omega
    simp [length_ints, h, h']
  · have h' : ¬ ((bndM k m i).length : Int) + m ≤ k := by omega
    simp [length_ints, h, h']
theorem owed_bnd {k m i : Nat} (hm : m ≤ 16) : (nodesOf (bndM k m (i + 1)) (fun x => decide (x = lawPt i))).length = if (bndM k m i).length + m ≤ k then m else 0 := by
  rw [nodesOf_eq (bndM_in hm _), bndM_succ]
  have h0 : (bndM k m i).filter (fun x => decide (x.p = lawPt i)) = [] := List.filter_eq_nil_iff.2 fun x hx => by simpa using lawPt_not hx
  split
  · rw [List.filter_append, h0, List.nil_append, List.filter_eq_self.2 (by
      intro x hx
      obtain ⟨n, _, rfl⟩ := List.mem_map.1 hx
      simp)]
    have : ((ints m).map (fun n => (⟨lawPt i, n⟩ : Hnt))).map (·.n) = ints m := by rw [List.map_map]; simp [Function.comp_def]
    rw [this, ref9_ints hm, length_ints]
  · rw [h0]; simp [ref9]

theorem bnd_nat (x : Int) (d : Int) (h0 : 0 < d) (h1 : d ≤ 1000) : ∃ k : Nat, (if x.tmod d < 0 then wrap64 (-x.tmod d) else x.tmod d) = k ∧ (k : Int) ≤ d - 1 := by
  have h2 : (x.tmod d).natAbs < d := by
    rw [Int.natAbs_tmod]
    have := Nat.mod_lt x.natAbs (show 0 < d.natAbs by omega)
    omega
  refine ⟨(x.tmod d).natAbs, ?_, by omega⟩
  split
  · unfold wrap64; omega
  · omega

set_option maxRecDepth 100000 in
set_option maxHeartbeats 3200000 in
theorem bounds_any (room many nodes : Int) (w : World) : Calls Try.prog 4 #[.int .i64 room, .int .i64 many, .int .i64 nodes] w (PBoolF true w) := by
  have h31 := bnd_nat room 31 (by omega) (by omega)
  have h21 := bnd_nat many 21 (by omega) (by omega)
  have h6 := bnd_nat nodes 6 (by omega) (by omega)
  have H31 := Lib.hid h31
  have H21 := Lib.hid h21
  have H6 := Lib.hid h6
  clear h31 h21 h6
  go_enter Try.func4, Try.ntmps4
  go_wp2_with fail
  refine (awake_any _).mono ?_
  rintro e w1 ⟨rfl, hf1⟩
  have HF1 := Lib.hid hf1
  clear hf1
  go_upto_if 21 with fail
  go_cut [8] from 17 (fun s wc => ∃ k : Nat, s = .int .i64 k ∧ k ≤ 30 ∧ w1 = wc)
  case first =>
    go_wp2_with fail
    all_goals
      go_meet
      case rel =>
        obtain ⟨k, hk, hle⟩ := H31.out
        refine ⟨k, ?_, by omega, rfl⟩
        first
          | rw [if_pos (by assumption)] at hk
          | rw [if_neg (by omega)] at hk
        rw [hk]
  obtain ⟨k, rfl, hk, rfl⟩ := hcut
  go_upto_if 27 with fail
  go_cut [9] from 17 (fun s w2 => ∃ n : Nat, s = .int .i64 n ∧ n ≤ 20 ∧ w1 = w2)
  case first =>
    go_wp2_with fail
    all_goals
      go_meet
      case rel =>
        obtain ⟨k, hk, hle⟩ := H21.out
        refine ⟨k, ?_, by omega, rfl⟩
        first
          | rw [if_pos (by assumption)] at hk
          | rw [if_neg (by omega)] at hk
        rw [hk]
  obtain ⟨n, rfl, hn, rfl⟩ := hcut
  go_upto_if 33 with fail
  go_cut [10] from 17 (fun s w2 => ∃ n : Nat, s = .int .i64 n ∧ n ≤ 5 ∧ w1 = w2)
  case first =>
    go_wp2_with fail
    all_goals
      go_meet
      case rel =>
        obtain ⟨k, hk, hle⟩ := H6.out
        refine ⟨k, ?_, by omega, rfl⟩
        first
          | rw [if_pos (by assumption)] at hk
          | rw [if_neg (by omega)] at hk
        rw [hk]
  obtain ⟨m, rfl, hm, rfl⟩ := hcut
  go_wp2_with fail
  refine (new_any k _).mono ?_
  rw [show clampI 0 600 (k : Int) = k by simp [clampI]; omega]
  rintro e w2 ⟨b, mm, rfl, hI2, hb, hmm, hg2⟩
  have HI2 := Lib.hid hI2
  have HF2 := Lib.hid (HF1.out.trans' (hg2.fr []))
  have hb0 : w.heap.size ≤ b := Nat.le_trans HF1.out.size hb
  have hm0 : w.heap.size ≤ mm := Nat.le_trans HF1.out.size hmm
  clear hI2 hg2 hb hmm
  go_wp2_with fail
  go_loopw [12, 13] (fun u i wr => ∃ j : Nat, j ≤ m ∧ i = .int .i64 j ∧ Hid (Fr [] w2 wr) ∧ wr.ownsRow w2.heap.size 3 1 u j (intCells (ints j))) (fun _ i _ => m - (intOf i).toNat)
  case atStart => exact ⟨0, by omega, rfl, Lib.hid (Fr.refl _ _), World.ownsRow_nil _ _ _ _⟩
  case round =>
    obtain ⟨j, hj, rfl, HF3, hown⟩ := hrel
    have HO := Lib.hid hown
    clear hown
    by_cases hlt : j < m
    · go_wp2_with (at_builtin; refine wpList_append_one rfl _ _ 23 rfl w2.heap.size 3 _ 1 8 Try.underlying23 info_int rfl (by omega) _ _ _ rfl (HO.out.alloc _) wr.heap.size #[.int .i64 j] 3 (by rfl) (heap_alloc_at (by simp)) rfl (by simp [Value.oneCell']) (by unfold maxLen; omega) (by omega) (by have := HF3.out.size; simp; omega) ?_; intro v3 w3 hown3 hg3; go_frame)
      go_roundw
      case rel =>
        refine ⟨j + 1, by omega, by go_num, Lib.hid ((HF3.out.alloc _).appended (HO.out.alloc _) (Nat.le_refl _) hg3), ?_⟩
        rw [ints_succ]
        simpa [intCells] using hown3
      case measure => simp [intOf]; omega
    · obtain rfl : m = j := by omega
      obtain ⟨A, c, hu, hc⟩ := own_slice HO.out
      subst hu
      have HR3 := Lib.hid (Rd.of_own HO.out)
      have HI3 := Lib.hid (HI2.out.fr HF3.out (by simp) (by simp))
      have HF4 := Lib.hid (HF2.out.trans' HF3.out)
      clear HO
      obtain ⟨wo, rfl⟩ : ∃ wo : World, wo = wr := ⟨_, rfl⟩
      go_wp2_with fail
      go_loopw [14, 15] (fun u i wr => ∃ j : Nat, j ≤ n ∧ i = .int .i64 j ∧ u = .int .i64 (bndM k m j).length ∧ Hid (IsHints wr b (some mm) k (bndM k m j) ∧ Fr [mm] wo wr)) (fun _ i _ => n - (intOf i).toNat)
      case atStart => exact ⟨0, by omega, rfl, rfl, Lib.hid ⟨HI3.out, Fr.refl _ _⟩⟩
      case round =>
        obtain ⟨i, hi, rfl, rfl, HI⟩ := hrel
        have HT := Lib.hid (HF4.out.own HI.out.2 (by simpa using hm0))
        by_cases hlt : i < n
        · have HR5 := Lib.hid (HR3.out.fr_map (by omega) HI.out.2 (HI3.out.some_ mm rfl) (Nat.le_refl _))
          have hsz := HI.out.2.size
          go_wp2_with fail
          refine (point_any i _).mono ?_
          rintro e w3 ⟨rfl, hg3⟩
          have HG3 := Lib.hid hg3
          clear hg3
          go_wp2_with fail
          refine (add_any b (some mm) k (bndM k m i) (lawPt i) (ints m) m c _ A _ (HI.out.1.grew HG3.out) aName_le (HR5.out.grew HG3.out hsz) (by have := HG3.out.size; omega) (by omega) (by have := bndM_le k m i; omega) (by omega) (by omega) (by simp)).mono ?_
          rintro e w4 ⟨rfl, hI4, hf4⟩
          rw [add_bnd (by omega) (by omega)] at hI4 ⊢
          have HI4 := Lib.hid hI4
          have HF5 := Lib.hid (HI.out.2.trans' ((HG3.out.fr _).trans' hf4))
          clear hI4 hf4
          have hlen := length_bndM k m i
          have how := owed_bnd (k := k) (m := m) (i := i) (by omega)
          have hle := bndM_le k m i
          have hle2 := bndM_le k m (i + 1)
          generalize hM2 : bndM k m (i + 1) = M2 at *
          have HM2 := Lib.hid hM2
          clear hM2
          by_cases hfit : (bndM k m i).length + m ≤ k
          · rw [if_pos hfit] at hlen how
            have hd : decide ((bndM k m i).length + m ≤ k) = true := by simpa using hfit
            simp only [hd]
            clear hd
            generalize (bndM k m i).length = L at *
            have hdb : (!decide ((L : Int) + m ≤ k)) = false := by simp; omega
            have hq0 : ((M2.length : Int) != (L : Int) + m) = false := by simp; omega
            have hq1 : ((k : Int) - (M2.length : Int) != (k : Int) - ((L : Int) + m)) = false := by simp; omega
            have hq2 : ((m : Int) != (m : Int)) = false := by simp
            go_wp2_with fail
            refine (len_any b (some mm) k M2 _ HI4.out).mono ?_
            rintro e w5 ⟨rfl, hg5⟩
            have HI5 := Lib.hid (HI4.out.grew hg5)
            have HF6 := Lib.hid (HF5.out.trans' (hg5.fr _))
            clear hg5
            go_wp2_with fail
            refine (room_any b (some mm) k M2 _ HI5.out (by omega) (by omega) (by omega)).mono ?_
            rintro e w6 ⟨rfl, hg6⟩
            have HI6 := Lib.hid (HI5.out.grew hg6)
            have HF7 := Lib.hid (HF6.out.trans' (hg6.fr _))
            clear hg6
            go_wp2_with fail
            refine (point_any i _).mono ?_
            rintro e w7 ⟨rfl, hg7⟩
            have HI7 := Lib.hid (HI6.out.grew hg7)
            have HF8 := Lib.hid (HF7.out.trans' (hg7.fr _))
            clear hg7
            go_wp2_with fail
            refine (owed_any b mm k M2 (lawPt i) _ HI7.out (by omega)).mono ?_
            rintro e w8 ⟨A8, c8, rfl, _, hf8⟩
            have HI8 := Lib.hid (HI7.out.fr hf8 (by simp) (by simp))
            have HF9 := Lib.hid (HF8.out.trans hf8 (by simp))
            clear hf8
            rw [how]
            go_wp2_with fail
            refine (point_any i _).mono ?_
            rintro e w9 ⟨rfl, hg9⟩
            have HI9 := Lib.hid (HI8.out.grew hg9)
            have HF10 := Lib.hid (HF9.out.trans' (hg9.fr _))
            clear hg9
            go_wp2_with fail
            refine (owed_any b mm k M2 (lawPt i) _ HI9.out (by omega)).mono ?_
            rintro e w10 ⟨A10, c10, rfl, _, hf10⟩
            have HI10 := Lib.hid (HI9.out.fr hf10 (by simp) (by simp))
            have HF11 := Lib.hid (HF10.out.trans hf10 (by simp))
            clear hf10
            rw [how]
            cases hmb : ((m : Int) != 0)
            all_goals
              go_wp2_with fail
              go_roundw
              case rel => exact ⟨i + 1, by omega, by go_num, by rw [HM2.out, hlen]; simp, by rw [HM2.out]; exact Lib.hid ⟨HI10.out, HF11.out⟩⟩
              case measure => simp [intOf]; omega
          · rw [if_neg hfit] at hlen how
            have hd : decide ((bndM k m i).length + m ≤ k) = false := by simpa using hfit
            simp only [hd]
            clear hd
            generalize (bndM k m i).length = L at *
            have hdb : decide ((L : Int) + m ≤ k) = false := by simp; omega
            have hm0 : ((0 : Int) != (m : Int)) = true := by simp; omega
            have hq0 : ((M2.length : Int) != (L : Int)) = false := by simp; omega
            have hq1 : ((k : Int) - (M2.length : Int) != (k : Int) - (L : Int)) = false := by simp; omega
            go_wp2_with fail
            refine (len_any b (some mm) k M2 _ HI4.out).mono ?_
            rintro e w5 ⟨rfl, hg5⟩
            have HI5 := Lib.hid (HI4.out.grew hg5)
            have HF6 := Lib.hid (HF5.out.trans' (hg5.fr _))
            clear hg5
            go_wp2_with fail
            refine (room_any b (some mm) k M2 _ HI5.out (by omega) (by omega) (by omega)).mono ?_
            rintro e w6 ⟨rfl, hg6⟩
            have HI6 := Lib.hid (HI5.out.grew hg6)
            have HF7 := Lib.hid (HF6.out.trans' (hg6.fr _))
            clear hg6
            go_wp2_with fail
            refine (point_any i _).mono ?_
            rintro e w7 ⟨rfl, hg7⟩
            have HI7 := Lib.hid (HI6.out.grew hg7)
            have HF8 := Lib.hid (HF7.out.trans' (hg7.fr _))
            clear hg7
            go_wp2_with fail
            refine (owed_any b mm k M2 (lawPt i) _ HI7.out (by omega)).mono ?_
            rintro e w8 ⟨A8, c8, rfl, _, hf8⟩
            have HI8 := Lib.hid (HI7.out.fr hf8 (by simp) (by simp))
            have HF9 := Lib.hid (HF8.out.trans hf8 (by simp))
            clear hf8
            rw [how]
            go_wp2_with fail
            refine (point_any i _).mono ?_
            rintro e w9 ⟨rfl, hg9⟩
            have HI9 := Lib.hid (HI8.out.grew hg9)
            have HF10 := Lib.hid (HF9.out.trans' (hg9.fr _))
            clear hg9
            go_wp2_with fail
            refine (owed_any b mm k M2 (lawPt i) _ HI9.out (by omega)).mono ?_
            rintro e w10 ⟨A10, c10, rfl, _, hf10⟩
            have HI10 := Lib.hid (HI9.out.fr hf10 (by simp) (by simp))
            have HF11 := Lib.hid (HF10.out.trans hf10 (by simp))
            clear hf10
            rw [how]
            go_wp2_with fail
            all_goals
              go_roundw
              case rel => exact ⟨i + 1, by omega, by go_num, by rw [HM2.out, hlen]; simp, by rw [HM2.out]; exact Lib.hid ⟨HI10.out, HF11.out⟩⟩
              case measure => simp [intOf]; omega
        · go_wp2_with fail
          go_ret
          exact PBoolF.mk rfl HT.out
end Go.Proofs.Ytmlelggakadpdaa
