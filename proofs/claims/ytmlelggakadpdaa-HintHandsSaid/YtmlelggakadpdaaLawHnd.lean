/-
  The statement HintHands: the walk of the law, in every world.
-/
import Derived.Test.YtmlelggakadpdaaRNod
import Derived.Test.YtmlelggakadpdaaHndP
import Derived.Deep.CutBlock
namespace Go.Proofs.Ytmlelggakadpdaa
open Go.RowKit

def isOk (p : Pt) : Bool := ptB p.s p.t p.c p.i p.q
def keepStep (K : List Pt) (p : Pt) : List Pt := if isOk p && !decide (p ∈ K) then K ++ [p] else K
/-- The points that are kept once k were added. -/
def keptL (L : List Pt) (k : Nat) : List Pt := (L.take k).foldl (fun K p => keepStep K (smallP p)) []
theorem keptL_succ {L : List Pt} {k : Nat} {p : Pt} (h : L[k]? = some p) : keptL L (k + 1) = keepStep (keptL L k) (smallP p) := by
  unfold keptL
  rw [List.take_add_one, h, List.foldl_append]; rfl
theorem keepStep_le (K : List Pt) (p : Pt) : (keepStep K p).length ≤ K.length + 1 := by
  unfold keepStep
  split <;> simp
theorem keptL_le (L : List Pt) : ∀ k, (keptL L k).length ≤ k
  | 0 => by simp [keptL]
  | k + 1 => by
    have ih := keptL_le L k
    cases h : L[k]? with
    | some p => rw [keptL_succ h]; have := keepStep_le (keptL L k) (smallP p); omega
    | none =>
      have : keptL L (k + 1) = keptL L k := by
        unfold keptL
        rw [List.take_add_one, h]; simp
      rw [this]; omega
/-- The hints of all the nodes for the points. -/
def hM (all : List Int) (K : List Pt) : List Hnt := K.flatMap fun p => all.map fun n => ⟨p, n⟩
theorem length_hM (all : List Int) (K : List Pt) : (hM all K).length = K.length * all.length := by
  unfold hM
  induction K with
  | nil => simp
  | cons p K ih => rw [List.flatMap_cons, List.length_append, ih, List.length_map, List.length_cons, Nat.add_mul]; omega
theorem mem_hM (all : List Int) (K : List Pt) (x : Hnt) : x ∈ hM all K ↔ x.p ∈ K ∧ x.n ∈ all := by
  unfold hM
  rw [List.mem_flatMap]
  constructor
  · rintro ⟨p, hp, hx⟩
    obtain ⟨n, hn, rfl⟩ := List.mem_map.1 hx
    exact ⟨hp, hn⟩
  · rintro ⟨h1, h2⟩
    exact ⟨x.p, h1, List.mem_map.2 ⟨x.n, h2, rfl⟩⟩
theorem more_hM (nodes : List Int) (K : List Pt) (p : Pt) : moreOf (hM (ref9 nodes) K) p nodes 16 = if p ∈ K then [] else (ref9 nodes).map fun n => ⟨p, n⟩ := by
  have h1 := moreOf_map (hM (ref9 nodes) K) p nodes
  have h2 : ∀ x ∈ moreOf (hM (ref9 nodes) K) p nodes 16, x = ⟨p, x.n⟩ := fun x hx => by
    obtain ⟨e, _⟩ := (mem_moreOf _ _ _ _).1 hx
    cases x; simp at e; simp [e]
  have h3 : moreOf (hM (ref9 nodes) K) p nodes 16 = ((moreOf (hM (ref9 nodes) K) p nodes 16).map (·.n)).map (fun n => ⟨p, n⟩) := by
    rw [List.map_map]
    conv => lhs; rw [← List.map_id (moreOf (hM (ref9 nodes) K) p nodes 16)]
    exact List.map_congr_left fun x hx => h2 x hx
  rw [h3, h1]
  by_cases hp : p ∈ K
  · rw [if_pos hp, List.filter_eq_nil_iff.2 (fun n hn => by simpa using (mem_hM _ _ _).2 ⟨hp, hn⟩)]; rfl
  · rw [if_neg hp, List.filter_eq_self.2 (fun n _ => by simpa using fun h => hp ((mem_hM _ _ _).1 h).1)]
theorem add_hands (nodes : List Int) (K : List Pt) (p : Pt) (hK : K.length ≤ 29) : addR (hM (ref9 nodes) K) 600 p nodes = (isOk p, hM (ref9 nodes) (keepStep K p)) := by
  unfold addR keepStep
  rw [more_hM, length_hM]
  have h16 := length_ref9 nodes
  have hm : K.length * (ref9 nodes).length ≤ 29 * 16 := Nat.mul_le_mul hK h16
  show (if (isOk p && _) = true then _ else _) = _
  cases hok : isOk p
  · simp
  · by_cases hp : p ∈ K
    · have : ((K.length * (ref9 nodes).length : Nat) : Int) ≤ 600 := by omega
      simp [hp]
      rw [Int.natCast_mul] at this
      exact this
    · have : ((K.length * (ref9 nodes).length : Nat) : Int) + ((ref9 nodes).length : Nat) ≤ 600 := by omega
      rw [Int.natCast_mul] at this
      simp [hp, this, hM]
theorem one_of_all (p : Pt) (a : Int) : ∀ (all : List Int), all.Nodup → a ∈ all → (all.map (fun n => (⟨p, n⟩ : Hnt))).filter (fun x => decide (x.n = a)) = [⟨p, a⟩]
  | [], _, h => by simp at h
  | b :: r, hn, h => by
    rw [List.nodup_cons] at hn
    by_cases e : b = a
    · subst e
      rw [List.map_cons, List.filter_cons_of_pos (by simp)]
      congr 1
      refine List.filter_eq_nil_iff.2 fun x hx => ?_
      obtain ⟨n, hn', rfl⟩ := List.mem_map.1 hx
      simp
      rintro rfl
      exact hn.1 hn'
    · rw [List.map_cons, List.filter_cons_of_neg (by simpa using e)]
      exact one_of_all p a r hn.2 (by simpa [Ne.symm e] using h)
theorem ptsFor_hM {all : List Int} (hn : all.Nodup) {a : Int} (ha : a ∈ all) (K : List Pt) : ptsFor (hM all K) a = sortP K := by
  unfold ptsFor
  congr 1
  unfold hM
  induction K with
  | nil => rfl
  | cons p K ih => rw [List.flatMap_cons, List.filter_append, List.map_append, ih, one_of_all p a all hn ha]; rfl
theorem empty_of_all {all : List Int} {M : List Hnt} (h1 : ∀ x ∈ M, x.n ∈ all) (h2 : ∀ a ∈ all, ptsFor M a = []) : M = [] := by
  cases M with
  | nil => rfl
  | cons x r =>
    have : x.p ∈ ptsFor (x :: r) x.n := (mem_ptsFor _ _ _).2 (by simp)
    rw [h2 x.n (h1 x (by simp))] at this
    cases this

theorem intCells_take (l : List Int) (n : Nat) : (intCells l).take n = intCells (l.take n) := by unfold intCells; exact (List.map_take ..).symm
theorem compI_nil : compI [] = [] := by rfl
theorem abs_nat (x : Int) (d : Int) (h0 : 0 < d) (h1 : d ≤ 1000) : ∃ k : Nat, (if x.tmod d < 0 then wrap64 (-x.tmod d) else x.tmod d) = k ∧ (k : Int) ≤ d - 1 := by
  have h2 : (x.tmod d).natAbs < d := by
    rw [Int.natAbs_tmod]
    have := Nat.mod_lt x.natAbs (show 0 < d.natAbs by omega)
    omega
  refine ⟨(x.tmod d).natAbs, ?_, by omega⟩
  split
  · unfold wrap64; omega
  · omega
/-- How the hints stand while node i of the list is handed what is kept; t points are handed to it. -/
structure HndAt (w w' : World) (b mm : Nat) (all : List Int) (K : List Pt) (i t : Nat) (M : List Hnt) : Prop where
  is : IsHints w' b (some mm) 600 M
  fr : Fr [mm] w w'
  sub : ∀ x ∈ M, x.n ∈ all
  done : ∀ j a, j < i → all[j]? = some a → ptsFor M a = []
  here : ∀ a, all[i]? = some a → ptsFor M a = (sortP K).drop t
  todo : ∀ j a, i < j → all[j]? = some a → ptsFor M a = sortP K
  len : M.length ≤ 600
theorem HndAt.fr0 {w w' w'' : World} {b mm : Nat} {all : List Int} {K : List Pt} {i t : Nat} {M : List Hnt} (h : HndAt w w' b mm all K i t M) (hf : Fr [] w' w'') : HndAt w w'' b mm all K i t M :=
  ⟨h.is.fr hf (by simp) (by simp), h.fr.trans hf (by simp), h.sub, h.done, h.here, h.todo, h.len⟩
theorem HndAt.next {w w' : World} {b mm : Nat} {all : List Int} {K : List Pt} {i t : Nat} {M : List Hnt} (h : HndAt w w' b mm all K i t M) (ht : t = K.length) : HndAt w w' b mm all K (i + 1) 0 M where
  is := h.is
  fr := h.fr
  sub := h.sub
  done j a hj ha := by
    by_cases e : j = i
    · subst e
      rw [h.here a ha, ht, List.drop_of_length_le (by rw [length_sortP]; exact Nat.le_refl _)]
    · exact h.done j a (by omega) ha
  here a ha := by rw [h.todo (i + 1) a (by omega) ha]; rfl
  todo j a hj ha := h.todo j a (by omega) ha
  len := h.len
theorem HndAt.acked {w w' w'' : World} {b mm : Nat} {all : List Int} {K : List Pt} {i t n : Nat} {M : List Hnt} {a : Int} (h : HndAt w w' b mm all K i t M) (hnd : all.Nodup) (ha : all[i]? = some a)
    (his : IsHints w'' b (some mm) 600 (ackM M a ((ptsFor M a).take n))) (hf : Fr [mm] w' w'') : HndAt w w'' b mm all K i (t + ((ptsFor M a).take n).length) (ackM M a ((ptsFor M a).take n)) := by
  have hne : ∀ j c, j ≠ i → all[j]? = some c → c ≠ a := by
    rintro j c hj hc rfl
    have := (List.getElem?_inj (by have := (List.getElem?_eq_some_iff.1 hc).1; exact this) hnd).1 (hc.trans ha.symm)
    exact hj this
  refine ⟨his, h.fr.trans' hf, fun x hx => h.sub x (ackM_sub hx), fun j c hj hc => ?_, fun c hc => ?_, fun j c hj hc => ?_, Nat.le_trans (ackM_le _ _ _) h.len⟩
  · rw [ptsFor_ack_other M _ (hne j c (by omega) hc)]
    exact h.done j c hj hc
  · rw [ha] at hc
    injection hc with hc
    subst hc
    rw [ptsFor_ack, filter_not_take (ptsFor_nodup h.is.nodup a), h.here a ha, List.drop_drop, List.length_take, List.length_drop]
    rcases Nat.le_total n ((sortP K).length - t) with h1 | h1
    · rw [Nat.min_eq_left h1]
    · rw [Nat.min_eq_right h1, List.drop_of_length_le (by omega), List.drop_of_length_le (by omega)]
  · rw [ptsFor_ack_other M _ (hne j c (by omega) hc)]
    exact h.todo j c hj hc

set_option maxRecDepth 100000 in
set_option maxHeartbeats 6400000 in
theorem hands_any (A A' : Option Addr) (n c n' c' : Nat) (l : List Pt) (nodes0 : List Int) (most : Int) (w : World) (hr : Rd w w.heap.size 6 A n (ptCells l)) (hs : ∀ x ∈ l, x.s.size ≤ maxLen) (hn : n ≤ maxLen)
    (hr' : Rd w w.heap.size 1 A' n' (intCells nodes0)) (hc' : n' ≤ c') (hm' : c' ≤ maxLen) :
    Calls Try.prog 3 #[.slice A n c, .slice A' n' c', .int .i64 most] w (PBoolF true w) := by
  unfold maxLen at hn hm'
  have HR := Lib.hid hr
  have HS := Lib.hid hs
  have HR' := Lib.hid hr'
  clear hr hs hr'
  go_enter Try.func3, Try.ntmps3
  go_wp2_with fail
  refine (awake_any _).mono ?_
  rintro e w1 ⟨rfl, hf1⟩
  have HF1 := Lib.hid hf1
  clear hf1
  go_wp2_with fail
  refine (new_any 600 _).mono ?_
  rw [show clampI 0 600 600 = 600 by decide]
  rintro e w2 ⟨b, mm, rfl, hI2, hb, hmm, hg2⟩
  have HI2 := Lib.hid hI2
  have HF2 := Lib.hid (HF1.out.trans' (hg2.fr []))
  have hb0 : w.heap.size ≤ b := Nat.le_trans HF1.out.size hb
  have hm0 : w.heap.size ≤ mm := Nat.le_trans HF1.out.size hmm
  clear hI2 hg2 hb hmm
  go_upto_if 30 with fail
  go_cut [1] from 24 (fun s wc => ∃ (m cc : Nat) (nodes : List Int), s = .slice A' m cc ∧ m ≤ 12 ∧ Hid (Rd w w.heap.size 1 A' m (intCells nodes)) ∧ w2 = wc)
  case first =>
    by_cases h12 : 12 < n'
    · obtain ⟨bb, off, rfl, _, _⟩ := HR'.out.cells (by omega)
      go_wp2_with fail
      go_meet
      case rel => exact ⟨12, _, nodes0.take 12, rfl, by omega, Lib.hid (by have := HR'.out.prefix_ (m := 12) (by omega); rwa [Nat.mul_one, intCells_take] at this), rfl⟩
    · go_wp2_with fail
      go_meet
      case rel => exact ⟨n', c', nodes0, rfl, by omega, HR', rfl⟩
  obtain ⟨m, cc, nodes, rfl, hm12, HRN, rfl⟩ := hcut
  go_wp2_with fail
  refine (rnodes_any nodes m cc w.heap.size A' _ (HRN.out.fr HF2.out (Nat.le_refl _) (by simp)) HF2.out.size (by omega)).mono ?_
  rintro e w3 ⟨A3, c3, rfl, hr3, hf3⟩
  have HR3 := Lib.hid hr3
  have HF3 := Lib.hid (HF2.out.trans' hf3)
  have HI3 := Lib.hid (HI2.out.fr hf3 (by simp) (by simp))
  clear hr3 hf3
  go_upto_block 0 with fail
  go_cut [10, 11] from 24 (fun s _ wc => ∃ (K : List Pt) (A4 : Option Addr) (c4 : Nat), s = .slice A4 K.length c4 ∧ K.length ≤ 30 ∧ Hid (IsHints wc b (some mm) 600 (hM (ref9 nodes) K) ∧ Fr [mm] w3 wc ∧ Rd wc wc.heap.size 6 A4 K.length (ptCells K)))
  case first =>
    go_wp2_with fail
    go_loopw [10, 11] (fun u i wr => ∃ k : Nat, k ≤ n ∧ k ≤ 30 ∧ i = .int .i64 k ∧ Hid (IsHints wr b (some mm) 600 (hM (ref9 nodes) (keptL l k)) ∧ Fr [mm] w3 wr) ∧ wr.ownsRow w3.heap.size 31 6 u (keptL l k).length (ptCells (keptL l k))) (fun _ i _ => n - (intOf i).toNat)
    case atStart => exact ⟨0, by omega, by omega, rfl, Lib.hid ⟨HI3.out, Fr.refl _ _⟩, World.ownsRow_nil _ _ _ _⟩
    case round =>
      obtain ⟨k, hk, hk30, rfl, HI, hown⟩ := hrel
      have HO := Lib.hid hown
      clear hown
      have hle := keptL_le l k
      have hsz := HI.out.2.size
      have HTW := Lib.hid (HF3.out.own HI.out.2 (by simpa using hm0))
      by_cases hlt : k < n
      · by_cases hlt30 : k < 30
        · obtain ⟨bb, off, p, rfl, hbb, hx, g0, g1, g2, g3, g4, g5⟩ := (HR.out.fr HTW.out (Nat.le_refl _) (by simp)).pt_at hlt
          have HX := Lib.hid hx
          have hps := HS.out p (List.mem_of_getElem? hx)
          have hsp := smallP_le p hps
          have hks := keptL_succ hx
          have HKS := Lib.hid hks
          clear hx hks
          have hd : decide ((k : Int) < 30) = true := by simp; omega
          go_wp2_with fail
          refine (small_any p _ hps).mono ?_
          rintro e w4 ⟨rfl, hg4⟩
          have hsz4 := hg4.size
          have HG4 := Lib.hid hg4
          clear hg4
          generalize smallP p = r at *
          generalize hK : keptL l k = K at *
          clear hK
          obtain ⟨wo, rfl⟩ : ∃ wo : World, wo = wr := ⟨_, rfl⟩
          have hW5 : (w4.alloc (.cells #[.string r.s, .int .i64 r.t, .int .i64 r.v, .int .i64 r.c, .int .i64 r.i, .int .i64 r.q] 31)).heap.size = w4.heap.size + 1 := by simp
          have hg5 : Grew wo (w4.alloc (.cells #[.string r.s, .int .i64 r.t, .int .i64 r.v, .int .i64 r.c, .int .i64 r.i, .int .i64 r.q] 31)) := HG4.out.alloc _
          have HO5 := Lib.hid (own_fr HO.out (hg5.fr []) (by simp))
          have HG5 := Lib.hid hg5
          clear hg5
          obtain ⟨A6, c6, hu6, hc6⟩ := own_slice HO.out
          subst hu6
          have HRK := Lib.hid (Rd.of_own HO.out)
          go_wp2_with fail
          have c0 : (w4.alloc (.cells #[.string r.s, .int .i64 r.t, .int .i64 r.v, .int .i64 r.c, .int .i64 r.i, .int .i64 r.q] 31)).cell? ⟨w4.heap.size, 0, none⟩ = some (.string r.s) := by simp [go_sem]
          have c1 : (w4.alloc (.cells #[.string r.s, .int .i64 r.t, .int .i64 r.v, .int .i64 r.c, .int .i64 r.i, .int .i64 r.q] 31)).cell? ⟨w4.heap.size, 1, none⟩ = some (.int .i64 r.t) := by simp [go_sem]
          have c2 : (w4.alloc (.cells #[.string r.s, .int .i64 r.t, .int .i64 r.v, .int .i64 r.c, .int .i64 r.i, .int .i64 r.q] 31)).cell? ⟨w4.heap.size, 2, none⟩ = some (.int .i64 r.v) := by simp [go_sem]
          have c3' : (w4.alloc (.cells #[.string r.s, .int .i64 r.t, .int .i64 r.v, .int .i64 r.c, .int .i64 r.i, .int .i64 r.q] 31)).cell? ⟨w4.heap.size, 3, none⟩ = some (.int .i64 r.c) := by simp [go_sem]
          have c4' : (w4.alloc (.cells #[.string r.s, .int .i64 r.t, .int .i64 r.v, .int .i64 r.c, .int .i64 r.i, .int .i64 r.q] 31)).cell? ⟨w4.heap.size, 4, none⟩ = some (.int .i64 r.i) := by simp [go_sem]
          have c5 : (w4.alloc (.cells #[.string r.s, .int .i64 r.t, .int .i64 r.v, .int .i64 r.c, .int .i64 r.i, .int .i64 r.q] 31)).cell? ⟨w4.heap.size, 5, none⟩ = some (.int .i64 r.q) := by simp [go_sem]
          have hwz : (w4.alloc (.cells #[.string r.s, .int .i64 r.t, .int .i64 r.v, .int .i64 r.c, .int .i64 r.i, .int .i64 r.q] 31)).heap.size = w4.heap.size + 1 := by simp
          generalize (w4.alloc (.cells #[.string r.s, .int .i64 r.t, .int .i64 r.v, .int .i64 r.c, .int .i64 r.i, .int .i64 r.q] 31)) = wx at *
          generalize w4.heap.size = bp at *
          go_loopw [13, 14] (fun h i w6 => ∃ j q : Nat, j ≤ K.length ∧ i = .int .i64 j ∧ h = .bool (decide (r ∈ K.take j)) ∧ w6 = wx.drewN q) (fun _ i _ => K.length - (intOf i).toNat)
          case atStart => exact ⟨0, 0, by omega, rfl, by simp, rfl⟩
          case round =>
            obtain ⟨j, q, hj, rfl, rfl, rfl⟩ := hrel
            by_cases hlt2 : j < K.length
            · obtain ⟨b6, off6, y, rfl, hb6, hy, k0, k1, k2, k3, k4, k5⟩ := (HRK.out.grew HG5.out (Nat.le_refl _)).pt_at hlt2
              have heq := run_eql_pt y r
              have hgd := pt_guard
              have hts : decide (r ∈ K.take (j + 1)) = (decide (r ∈ K.take j) || decide (y = r)) := by
                rw [List.take_add_one, hy, Bool.eq_iff_iff]
                simp only [decide_eq_true_eq, Bool.or_eq_true, List.mem_append, Option.toList_some, List.mem_singleton]
                exact ⟨fun h => h.imp id Eq.symm, fun h => h.imp id Eq.symm⟩
              have HTS := Lib.hid hts
              clear hts hy
              have hb6' : b6 < wx.heap.size := by omega
              have hbx : bp < wx.heap.size := by omega
              cases hd1 : decide (r ∈ K.take j) <;> cases hd2 : decide (y = r)
              all_goals
                rw [hd2] at heq
                have HD1 := Lib.hid hd1
                have HD2 := Lib.hid hd2
                clear hd1 hd2
                go_wp2_with fail
                go_quiet (fail)
                go_wp2
                go_roundw
                case rel => exact ⟨j + 1, _, by omega, by go_num, by rw [HTS.out, HD1.out, HD2.out]; rfl, rfl⟩
                case measure => simp [intOf]; omega
            · obtain rfl : j = K.length := by omega
              rw [List.take_length]
              have hgq : Grew wo (wx.drewN q) := HG5.out.drewN q
              have hmlt : mm < w3.heap.size := (HI3.out.some_ mm rfl).lt
              have hblt : b < w3.heap.size := HI3.out.lt
              change (wx.drewN q).cell? _ = _ at c0 c1 c2 c3' c4' c5
              change (wx.drewN q).heap.size = _ at hwz
              generalize wx.drewN q = w6 at *
              have HGQ := Lib.hid hgq
              have hI6 := HI.out.1.grew hgq
              have hRN6 := HRN.out.fr (HTW.out.trans' (hgq.fr [])) (Nat.le_refl _) (by simp)
              have hz6 := hgq.size
              have hw63 := (HTW.out.trans' (hgq.fr [])).size
              have HO6 := Lib.hid (own_fr HO.out (hgq.fr []) (by simp))
              clear hgq
              go_wp2_with fail
              refine (add_any b (some mm) 600 (hM (ref9 nodes) K) r nodes m cc w.heap.size A' _ hI6 hsp hRN6 (by omega) (by omega) (by rw [length_hM]; have := Nat.mul_le_mul hle (length_ref9 nodes); omega) (by omega) (by omega) (by simp)).mono ?_
              rw [add_hands nodes K r (by omega)]
              rintro e w7 ⟨rfl, hI7, hf7⟩
              have hne : ∀ o, w7.cell? ⟨bp, o, none⟩ = w6.cell? ⟨bp, o, none⟩ := fun o => hf7.cell (by show bp < _; omega) (by simp; omega)
              rw [← hne] at c0 c1 c2 c3' c4' c5
              have hz7 := hf7.size
              have HI7 := Lib.hid hI7
              have HF7 := Lib.hid ((HI.out.2.trans' (HGQ.out.fr _)).trans' hf7)
              have HO7 := Lib.hid (own_fr HO6.out hf7 (fun g hg hin => by have := (HO6.out.lt g hg).1; simp at hin; omega))
              clear hI6 hI7 hf7 hRN6 hne
              have hbp7 : bp < w7.heap.size := by omega
              go_wp2_with fail
              refine (rcheckp_any r.s r.t r.v r.c r.i r.q _ hsp).mono ?_
              rintro e w8 ⟨rfl, hg8⟩
              have hne : ∀ o, w8.cell? ⟨bp, o, none⟩ = w7.cell? ⟨bp, o, none⟩ := fun o => hg8.cell hbp7
              rw [← hne] at c0 c1 c2 c3' c4' c5
              have hz8 := hg8.size
              have HI8 := Lib.hid (HI7.out.grew hg8)
              have HF8 := Lib.hid (HF7.out.trans' (hg8.fr _))
              have HO8 := Lib.hid (own_fr HO7.out (hg8.fr []) (by simp))
              clear hg8 hne
              have hbp8 : bp < w8.heap.size := by omega
              rw [show ptB r.s r.t r.c r.i r.q = isOk r from rfl]
              cases hok : isOk r
              · simp only [errOf]
                have hks : keepStep K r = K := by unfold keepStep; rw [hok]; rfl
                rw [hks] at HKS HI8
                go_wp2_with fail
                go_roundw
                case rel => exact ⟨k + 1, by omega, by omega, by go_num, by rw [HKS.out]; exact Lib.hid ⟨HI8.out, HF8.out⟩, by rw [HKS.out]; exact HO8.out⟩
                case measure => simp [intOf]; omega
              · simp only [errOf]
                cases hin : decide (r ∈ K)
                · have hks : keepStep K r = K ++ [r] := by unfold keepStep; rw [hok, hin]; rfl
                  rw [hks] at HKS HI8
                  have HIN := Lib.hid hin
                  clear hin
                  go_wp2_with (at_builtin; refine wpList_append_one rfl _ _ 22 rfl w3.heap.size 31 _ 6 56 Try.underlying22 info_pt rfl (by omega) _ _ _ rfl (HO8.out.alloc _) w8.heap.size #[.string r.s, .int .i64 r.t, .int .i64 r.v, .int .i64 r.c, .int .i64 r.i, .int .i64 r.q] 31 (by rfl) (heap_alloc_at (by simp)) rfl (by simp [Value.oneCell']) (by unfold maxLen; omega) (by omega) (by simp; omega) ?_; intro v9 w9 hown9 hg9; go_frame)
                  go_roundw
                  case rel =>
                    refine ⟨k + 1, by omega, by omega, by go_num, ?_, ?_⟩
                    · rw [HKS.out]
                      refine Lib.hid ⟨?_, (HF8.out.alloc _).appended (HO8.out.alloc _) (Nat.le_refl _) hg9⟩
                      exact (HI8.out.grew ((Grew.refl _).alloc _)).fr (S := (Value.slice A6 K.length c6).ownBlock.toList) (Fr.of_grown hg9 fun k hk _ => by have hk' : (Value.slice A6 K.length c6).ownBlock = some k := hk; rw [hk']; simp) (fun hin => by have := (HO8.out.lt b (by simpa using hin)).1; omega)
                        (fun g hg hin => by cases hg; have := (HO8.out.lt mm (by simpa using hin)).1; omega)
                    · rw [HKS.out]
                      simpa [ptCells, Pt.cells] using hown9
                  case measure => simp [intOf]; omega
                · have hks : keepStep K r = K := by unfold keepStep; rw [hok, hin]; rfl
                  rw [hks] at HKS HI8
                  have HIN := Lib.hid hin
                  clear hin
                  go_wp2_with fail
                  go_roundw
                  case rel => exact ⟨k + 1, by omega, by omega, by go_num, by rw [HKS.out]; exact Lib.hid ⟨HI8.out, HF8.out⟩, by rw [HKS.out]; exact HO8.out⟩
                  case measure => simp [intOf]; omega
        · have hd : decide ((k : Int) < 30) = false := by simp; omega
          obtain ⟨A4, c4, hu, _⟩ := own_slice HO.out
          subst hu
          go_wp2_with fail
          go_meet
          case rel => exact ⟨keptL l k, A4, c4, rfl, by omega, Lib.hid ⟨HI.out.1, HI.out.2, Rd.of_own HO.out⟩⟩
      · obtain ⟨A4, c4, hu, _⟩ := own_slice HO.out
        subst hu
        go_wp2_with fail
        go_meet
        case rel => exact ⟨keptL l k, A4, c4, rfl, by omega, Lib.hid ⟨HI.out.1, HI.out.2, Rd.of_own HO.out⟩⟩
  obtain ⟨K, A4, c4, rfl, hK30, HC⟩ := hcut
  obtain ⟨w5, rfl⟩ : ∃ w5 : World, w5 = wc := ⟨_, rfl⟩
  have h10 := abs_nat most 10 (by omega) (by omega)
  have H10 := Lib.hid h10
  clear h10
  go_upto_if 86 with fail
  go_cut [16] from 24 (fun s wc => ∃ q : Nat, s = .int .i64 q ∧ q ≤ 9 ∧ w5 = wc)
  case first =>
    go_wp2_with fail
    all_goals
      go_meet
      case rel =>
        obtain ⟨k, hk, hle⟩ := H10.out
        refine ⟨k, ?_, by omega, rfl⟩
        first
          | rw [if_pos (by assumption)] at hk
          | rw [if_neg (by omega)] at hk
        rw [hk]
  obtain ⟨q, rfl, hq9, rfl⟩ := hcut
  have hlen16 := length_ref9 nodes
  have HND := Lib.hid (ref9_nodup nodes)
  have hmul : (K.length : Int) * ((ref9 nodes).length : Int) = ((hM (ref9 nodes) K).length : Int) := by rw [length_hM]; exact (Int.natCast_mul _ _).symm
  have hM600 : (hM (ref9 nodes) K).length ≤ 600 := by rw [length_hM]; have := Nat.mul_le_mul hK30 hlen16; omega
  have hw3 := HF3.out.size
  have hmlt : mm < w3.heap.size := (HI3.out.some_ mm rfl).lt
  have hblt : b < w3.heap.size := HI3.out.lt
  have hat : HndAt w5 w5 b mm (ref9 nodes) K 0 0 (hM (ref9 nodes) K) := ⟨HC.out.1, Fr.refl _ _, fun x hx => ((mem_hM _ _ _).1 hx).2, fun j a hj => by omega,
    fun a ha => by rw [ptsFor_hM HND.out (List.mem_of_getElem? ha)]; rfl, fun j a _ ha => ptsFor_hM HND.out (List.mem_of_getElem? ha) K, hM600⟩
  have HAT := Lib.hid hat
  clear hat
  have HFW := Lib.hid (HF3.out.own HC.out.2.1 (by simpa using hm0))
  have HRA := Lib.hid (HR3.out.fr_map (by omega) HC.out.2.1 (HI3.out.some_ mm rfl) (Nat.le_refl _))
  have hw53 := HC.out.2.1.size
  generalize hall : ref9 nodes = all at *
  generalize hM all K = M0 at *
  clear hall
  go_wp2_with fail
  refine (len_any b (some mm) 600 M0 _ HAT.out.is).mono ?_
  rintro e w6 ⟨rfl, hg6⟩
  have HG6 := Lib.hid hg6
  clear hg6
  have hat6 := HAT.out.fr0 (HG6.out.fr [])
  have HAT6 := Lib.hid hat6
  have HMAP := Lib.hid (HC.out.1.some_ mm rfl)
  clear hat6
  go_wp2_with fail
  go_loopw [17] (fun i wr => ∃ j : Nat, j ≤ all.length ∧ i = .int .i64 j ∧ Hid (∃ M, HndAt w5 wr b mm all K j 0 M)) (fun i _ => all.length - (intOf i).toNat)
  case atStart => exact ⟨0, by omega, rfl, Lib.hid ⟨M0, HAT6.out⟩⟩
  case round =>
    obtain ⟨j, hj, rfl, HL⟩ := hrel
    by_cases hlt : j < all.length
    · obtain ⟨wo, rfl⟩ : ∃ wo : World, wo = wr := ⟨_, rfl⟩
      obtain ⟨b3, off3, a, rfl, hb3, ha, hc3⟩ := HRA.out.int_at hlt
      have HA := Lib.hid ha
      have HC3 := Lib.hid hc3
      clear ha hc3
      go_wp2_with fail
      go_loopw [18, 19] (fun u v w7 => ∃ k t : Nat, k ≤ 40 ∧ k ≤ t ∧ t ≤ K.length ∧ u = .int .i64 t ∧ v = .int .i64 k ∧ Hid (∃ M, HndAt w5 w7 b mm all K j t M)) (fun _ v _ => 40 - (intOf v).toNat)
      case atStart => exact ⟨0, 0, by omega, by omega, by omega, rfl, rfl, HL⟩
      case round =>
        obtain ⟨k, t, hk, hkt, ht, rfl, rfl, HL2⟩ := hrel
        by_cases hlt2 : k < 40
        · obtain ⟨M, hat⟩ := HL2.out
          have HT := Lib.hid hat
          obtain ⟨b3', off3', a', hA3, _, ha', hc3'⟩ := (HRA.out.fr_map (by omega) hat.fr HMAP.out (by omega)).int_at hlt
          obtain ⟨rfl, rfl⟩ : b3' = b3 ∧ off3' = off3 := by
            injection hA3 with hA3
            injection hA3 with e1 e2
            exact ⟨e1.symm, e2.symm⟩
          obtain rfl : a' = a := by rw [HA.out] at ha'; injection ha' with e; exact e.symm
          have hz7 := hat.fr.size
          have hb37 : b3' < wr.heap.size := by omega
          have hMl := hat.len
          have hhere := hat.here a' HA.out
          have hnd := ptsFor_nodup hat.is.nodup a'
          have htk : forL M a' ((q : Int) + 1) = (ptsFor M a').take (q + 1) := by
            have := forL_take M a' (q + 1)
            simpa using this
          have hll : ((ptsFor M a').take (q + 1)).length = min (q + 1) (K.length - t) := by rw [hhere, List.length_take, List.length_drop, length_sortP]
          have hsub : ∀ p ∈ (ptsFor M a').take (q + 1), (⟨p, a'⟩ : Hnt) ∈ M ∧ p ∈ K := by
            intro p hp
            have h1 := List.mem_of_mem_take hp
            refine ⟨(mem_ptsFor _ _ _).1 h1, ?_⟩
            rw [hhere] at h1
            exact (sortP_perm K).mem_iff.1 (List.mem_of_mem_drop h1)
          have hack : ackL M a' ((ptsFor M a').take (q + 1)) = (ackM M a' ((ptsFor M a').take (q + 1)), ((ptsFor M a').take (q + 1)).length) := ackL_all (hnd.sublist (List.take_sublist _ _)) (fun p hp => (hsub p hp).1)
          have HSUB := Lib.hid hsub
          have HACK := Lib.hid hack
          clear hA3 ha' hat hhere hnd hsub hack
          go_wp2_with fail
          refine (for_any b mm 600 a' ((q : Int) + 1) M _ HT.out.is (by omega)).mono ?_
          rw [htk]
          rintro e w8 ⟨A8, c8, rfl, hr8, hf8⟩
          have HR8 := Lib.hid hr8
          have HT8 := Lib.hid (HT.out.fr0 hf8)
          have hz8 := hf8.size
          have hc38 := (hf8.cell (a := ⟨b3', off3' + j, none⟩) hb37 (by simp)).trans hc3'
          clear hr8 hf8 htk
          generalize hl : (ptsFor M a').take (q + 1) = l8 at *
          have HLL := Lib.hid hl
          have hl1 : l8.length ≤ q + 1 := by omega
          have hl2 : t + l8.length ≤ K.length := by omega
          have hl3 : l8.length = 0 → t = K.length := by omega
          clear hl hll
          by_cases h0 : l8.length = 0
          · obtain rfl : t = K.length := hl3 h0
            have hq0 : ((l8.length : Int) == 0) = true := by rw [h0]; rfl
            go_wp2_with fail
            go_roundw
            case rel => exact ⟨j + 1, by omega, by go_num, Lib.hid ⟨M, HT8.out.next rfl⟩⟩
            case measure => simp [intOf]; omega
          · have hq0 : ((l8.length : Int) == 0) = false := beq_eq_false_iff_ne.2 (by omega)
            have hq1 : decide ((q : Int) + 1 < (l8.length : Int)) = false := by simp; omega
            have hb38 : b3' < w8.heap.size := by omega
            go_wp2_with fail
            refine (ack_any b mm 600 a' M l8 l8.length c8 _ A8 _ HT8.out.is HR8.out (Nat.le_refl _) (by omega)).mono ?_
            rw [HACK.out]
            rintro e w9 ⟨rfl, hi9, hf9⟩
            have hr9 := HR8.out.fr_map (by omega) hf9 (HT8.out.is.some_ mm rfl) (Nat.le_refl _)
            have hc39 := ((Rd.int_at ((HRA.out.fr_map (by omega) (HT8.out.fr.trans' hf9) HMAP.out (by omega))) hlt))
            have HR9 := Lib.hid hr9
            have HI9 := Lib.hid hi9
            have hz9 := hf9.size
            have HF9 := Lib.hid hf9
            obtain ⟨b3'', off3'', a'', hA3, _, ha', hc39⟩ := hc39
            obtain ⟨rfl, rfl⟩ : b3'' = b3' ∧ off3'' = off3' := by
              injection hA3 with hA3
              injection hA3 with e1 e2
              exact ⟨e1.symm, e2.symm⟩
            obtain rfl : a'' = a' := by rw [HA.out] at ha'; injection ha' with e; exact e.symm
            have hb39 : b3'' < w9.heap.size := by omega
            clear hr9 hi9 hf9 hA3 ha' hc38 hc3'
            go_wp2_with fail
            refine (ack_any b mm 600 a'' (ackM M a'' l8) l8 l8.length c8 _ A8 _ HI9.out HR9.out hz9 (by omega)).mono ?_
            rw [ackL_twice]
            rintro e w10 ⟨rfl, hi10, hf10⟩
            have hr10 := HR9.out.fr_map (by omega) hf10 (HI9.out.some_ mm rfl) hz9
            have hk10 := HC.out.2.2.fr_map (by omega) (HT8.out.fr.trans' (HF9.out.trans' hf10)) HMAP.out (Nat.le_refl _)
            have hat10 : HndAt w5 w10 b mm all K j (t + l8.length) (ackM M a'' l8) := by
              have := HT8.out.acked (n := q + 1) HND.out HA.out (by rw [HLL.out]; exact hi10) (HF9.out.trans' hf10)
              rwa [HLL.out] at this
            have hz10 := hf10.size
            have HR10 := Lib.hid hr10
            have HK10 := Lib.hid hk10
            have HT10 := Lib.hid hat10
            clear hr10 hk10 hat10 hi10 hf10 hc39
            obtain ⟨w7, rfl⟩ : ∃ w7 : World, w7 = wr := ⟨_, rfl⟩
            go_wp2_with fail
            go_loopw [21] (fun v w11 => ∃ y d : Nat, y ≤ l8.length ∧ v = .int .i64 y ∧ w11 = w10.drewN d) (fun v _ => l8.length - (intOf v).toNat)
            case atStart => exact ⟨0, 0, by omega, rfl, rfl⟩
            case round =>
              obtain ⟨y, d, hy, rfl, rfl⟩ := hrel
              by_cases hlt3 : y < l8.length
              · obtain ⟨b8, off8, p, rfl, hb8, hp, g0, g1, g2, g3, g4, g5⟩ := HR10.out.pt_at hlt3
                have hpK := (HSUB.out p (List.mem_of_getElem? hp)).2
                have HPK := Lib.hid hpK
                have hb8' : b8 < w10.heap.size := by omega
                clear hpK hp
                go_wp2_with fail
                go_loopw [22, 23] (fun h v w12 => ∃ z d : Nat, z ≤ K.length ∧ v = .int .i64 z ∧ h = .bool (decide (p ∈ K.take z)) ∧ w12 = w10.drewN d) (fun _ v _ => K.length - (intOf v).toNat)
                case atStart => exact ⟨0, d, by omega, rfl, by simp, rfl⟩
                case round =>
                  obtain ⟨z, d2, hz, rfl, rfl, rfl⟩ := hrel
                  by_cases hlt4 : z < K.length
                  · obtain ⟨b6, off6, x, rfl, hb6, hx, k0, k1, k2, k3, k4, k5⟩ := HK10.out.pt_at hlt4
                    have heq := run_eql_pt x p
                    have hgd := pt_guard
                    have hts : decide (p ∈ K.take (z + 1)) = (decide (p ∈ K.take z) || decide (x = p)) := by
                      rw [List.take_add_one, hx, Bool.eq_iff_iff]
                      simp only [decide_eq_true_eq, Bool.or_eq_true, List.mem_append, Option.toList_some, List.mem_singleton]
                      exact ⟨fun h => h.imp id Eq.symm, fun h => h.imp id Eq.symm⟩
                    have HTS := Lib.hid hts
                    have hb6' : b6 < w10.heap.size := by omega
                    clear hx hts
                    cases hd1 : decide (p ∈ K.take z) <;> cases hd2 : decide (x = p)
                    all_goals
                      rw [hd2] at heq
                      have HD1 := Lib.hid hd1
                      have HD2 := Lib.hid hd2
                      clear hd1 hd2
                      go_wp2_with fail
                      go_quiet (fail)
                      go_wp2
                      go_roundw
                      case rel => exact ⟨z + 1, _, by omega, by go_num, by rw [HTS.out, HD1.out, HD2.out]; rfl, rfl⟩
                      case measure => simp [intOf]; omega
                  · obtain rfl : z = K.length := by omega
                    have hin : decide (p ∈ K.take K.length) = true := by rw [List.take_length]; simpa using HPK.out
                    rw [hin]
                    go_wp2_with fail
                    go_roundw
                    case rel => exact ⟨y + 1, _, by omega, by go_num, rfl⟩
                    case measure => simp [intOf]; omega
              · go_wp2_with fail
                go_roundw
                case rel => exact ⟨k + 1, t + l8.length, by omega, by omega, by omega, by go_num, by go_num, Lib.hid ⟨_, HT10.out.fr0 ((Fr.refl _ _).drewN _)⟩⟩
                case measure => simp [intOf]; omega
        · exfalso; omega
    · obtain rfl : j = all.length := by omega
      obtain ⟨M, hat⟩ := HL.out
      have hM : M = [] := empty_of_all hat.sub fun a ha => by
        obtain ⟨i, hi, rfl⟩ := List.mem_iff_getElem.1 ha
        exact hat.done i _ hi (List.getElem?_eq_getElem hi)
      subst hM
      have HE := Lib.hid (HFW.out.own hat.fr (by simp; omega))
      have HI := Lib.hid hat.is
      clear hat
      go_wp2_with fail
      refine (len_any b (some mm) 600 [] _ HI.out).mono ?_
      rintro e w7 ⟨rfl, hg7⟩
      have HI7 := Lib.hid (HI.out.grew hg7)
      have HE7 := Lib.hid (HE.out.trans' (hg7.fr []))
      clear hg7
      go_wp2_with fail
      refine (allnodes_any b mm 600 [] _ HI7.out (by simp)).mono ?_
      have hno : nodesOf [] (fun _ => true) = [] := by simp [nodesOf, sortI, compI_nil]
      rw [hno]
      rintro e w8 ⟨A8, c8, rfl, _, hf8⟩
      have HE8 := Lib.hid (HE7.out.trans' hf8)
      clear hf8
      go_wp2_with fail
      go_ret
      exact PBoolF.mk rfl HE8.out
end Go.Proofs.Ytmlelggakadpdaa
