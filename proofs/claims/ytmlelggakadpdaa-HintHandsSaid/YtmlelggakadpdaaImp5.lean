/-
  The program's hints: For.
-/
import Derived.Test.YtmlelggakadpdaaImp4
import Derived.Test.YtmlelggakadpdaaSortP
namespace Go.Proofs.Ytmlelggakadpdaa
open Go.RowKit

theorem info_pt : (Try.prog.info? 31).map (fun i => (i.zero, i.size, i.bytes)) = some (some (.agg #[.string ByteArray.empty, .int .i64 0, .int .i64 0, .int .i64 0, .int .i64 0, .int .i64 0]), 6, 56) := by kernel_rfl
def PPts (l : List Pt) (w : World) (e : Ending) (w' : World) : Prop := ∃ A c, e = .returned (.slice A l.length c) ∧ Rd w' w'.heap.size 6 A l.length (ptCells l) ∧ Fr [] w w'
/-- .. and that what is told lies in a block of the call's own. -/
def PPtsO (l : List Pt) (w : World) (e : Ending) (w' : World) : Prop := ∃ A c, e = .returned (.slice A l.length c) ∧ Rd w' w'.heap.size 6 A l.length (ptCells l) ∧ Fr [] w w' ∧ ∀ g off, A = some ⟨g, off, none⟩ → w.heap.size ≤ g
theorem own_lo {w : World} {base : Nat} {e : TypeId} {size n m c : Nat} {A : Option Addr} {xs : List Value} (h : w.ownsRow base e size (.slice A m c) n xs) : ∀ g off, A = some ⟨g, off, none⟩ → base ≤ g := by
  intro g off hA
  rcases h.2 with ⟨e0, _⟩ | ⟨g', cap', cur, e0, hb, _⟩
  · injection e0 with e1
    rw [e1] at hA; cases hA
  · injection e0 with e1
    rw [e1] at hA
    injection hA with hA
    injection hA with hA
    omega
/-- The points that are kept for a node, in order. -/
def ptsFor (M : List Hnt) (node : Int) : List Pt := sortP ((M.filter (fun x => decide (x.n = node))).map (·.p))
def forL (M : List Hnt) (node most : Int) : List Pt := (ptsFor M node).take (max most 0).toNat

theorem sortP_perm (l : List Pt) : (sortP l).Perm l := List.mergeSort_perm _ _
theorem length_sortP (l : List Pt) : (sortP l).length = l.length := (sortP_perm l).length_eq
theorem sortP_sorted (l : List Pt) : (sortP l).Pairwise (fun x y => (ltOf ordP) y x = false) := by
  have := List.pairwise_mergeSort (le := fun x y : Pt => !(ltOf ordP) y x) (fun a b c h1 h2 => by
    have := swoP.ntrans c b a (by simpa using h2) (by simpa using h1)
    simpa using this) (fun a b => by
    cases h : ltOf ordP b a
    · simp
    · have : ltOf ordP a b = false := by
        cases h' : ltOf ordP a b
        · rfl
        · have := swoP.trans a b a h' h
          rw [swoP.irrefl] at this; cases this
      simp [this]) l
  exact this.imp (fun h => by simpa using h)
theorem sortP_eq_of_perm {l m : List Pt} (h : l.Perm m) : sortP l = sortP m := by
  have hp : (sortP l).Perm (sortP m) := (sortP_perm l).trans (h.trans (sortP_perm m).symm)
  exact hp.eq_of_pairwise (fun a b _ _ h1 h2 => totP a b h2 h1) (sortP_sorted l) (sortP_sorted m)

set_option maxHeartbeats 400000 in
theorem for_none (node most : Int) (w : World) : Calls Try.prog 15 #[.pointer none, .int .i64 node, .int .i64 most] w fun e w' => e = .returned (.slice none 0 0) ∧ w = w' := by
  go_enter Try.func15, Try.ntmps15
  go_wp2_with fail
  go_step3
  go_wp2
  rw [Exit.noGoto_ret]
  go_ret
  exact ⟨rfl, rfl⟩

theorem pperm_yes {acc : List Pt} {todo M : List Hnt} {node : Int} {x : Hnt} (h : (acc ++ (todo.filter (fun x => decide (x.n = node))).map (·.p)).Perm ((M.filter (fun x => decide (x.n = node))).map (·.p))) (hn : todo.Nodup) (hx : x ∈ todo) (hf : x.n = node) :
    (acc ++ [x.p] ++ ((strike todo x).filter (fun x => decide (x.n = node))).map (·.p)).Perm ((M.filter (fun x => decide (x.n = node))).map (·.p)) := by
  refine List.Perm.trans ?_ h
  rw [List.append_assoc]
  refine List.Perm.append_left acc ?_
  have h1 : (todo.filter (fun x => decide (x.n = node))).Perm (x :: (strike todo x).filter (fun x => decide (x.n = node))) := by
    have : todo.Perm (x :: strike todo x) := by
      have e := List.perm_cons_erase hx
      rw [List.Nodup.erase_eq_filter hn] at e
      unfold strike
      refine e.trans (List.Perm.cons x ?_)
      rw [show (fun y : Hnt => decide (y ≠ x)) = (fun y => y != x) by funext y; simp [bne]; rfl]
    have := this.filter (fun x => decide (x.n = node))
    rwa [List.filter_cons_of_pos (by simpa using hf)] at this
  have := (h1.map (·.p)).symm
  simpa using this
theorem pperm_no {acc : List Pt} {todo M : List Hnt} {node : Int} {x : Hnt} (h : (acc ++ (todo.filter (fun x => decide (x.n = node))).map (·.p)).Perm ((M.filter (fun x => decide (x.n = node))).map (·.p))) (hf : x.n ≠ node) :
    (acc ++ ((strike todo x).filter (fun x => decide (x.n = node))).map (·.p)).Perm ((M.filter (fun x => decide (x.n = node))).map (·.p)) := by
  have : (strike todo x).filter (fun x => decide (x.n = node)) = todo.filter (fun x => decide (x.n = node)) := by
    unfold strike
    rw [List.filter_filter]
    refine List.filter_congr fun y _ => ?_
    by_cases e : y = x
    · subst e; simp [hf]
    · simp [e]
  rw [this]; exact h

set_option maxRecDepth 100000 in
set_option maxHeartbeats 3200000 in
theorem for_own (b m : Nat) (cap node most : Int) (M : List Hnt) (w : World) (h : IsHints w b (some m) cap M) (hM : M.length ≤ 100000) :
    Calls Try.prog 15 #[.pointer (some ⟨b, 0, none⟩), .int .i64 node, .int .i64 most] w (PPtsO (forL M node most) w) := by
  have H := Lib.hid h
  have k1 := h.ref
  have hbl := h.lt
  have hmap := h.some_ m rfl
  have HMP := Lib.hid hmap
  clear h hmap
  go_enter Try.func15, Try.ntmps15
  go_wp2_with fail
  go_step3
  go_wp2_with fail
  go_step3
  go_wp2_with (at_range; refine wpList_range_h rfl _ rfl rfl HMP.out ?_; intro w0 hit0 hg0 hs0; go_frame)
  have HG0 := Lib.hid hg0
  have HIT0 := Lib.hid hit0
  clear hg0 hit0
  go_loopw [7] (fun u wr => ∃ (todo : List Hnt) (acc : List Pt), wr.ownsRow w.heap.size 31 6 u acc.length (ptCells acc) ∧ Hid (HIter wr m w.heap.size M todo ∧ Fr [] w wr ∧ todo.Nodup ∧ (acc ++ (todo.filter (fun x => decide (x.n = node))).map (·.p)).Perm ((M.filter (fun x => decide (x.n = node))).map (·.p))))
    (fun _ wr => wr.rangeLeft m w.heap.size)
  case atStart => exact ⟨M, [], World.ownsRow_nil _ _ _ _, Lib.hid ⟨HIT0.out, HG0.out.fr _, HMP.out.nodup, by simp⟩⟩
  case round =>
    obtain ⟨todo, acc, hown, HI⟩ := hrel
    have HOWN := Lib.hid hown
    clear hown
    have hlen : acc.length ≤ M.length := by
      have := HI.out.2.2.2.length_eq
      have h2 := List.length_filter_le (fun x : Hnt => decide (x.n = node)) M
      simp at this
      omega
    go_wp2_with (at_next; refine wpList_next_h rfl _ rfl rfl HI.out.1 ?_ ?_)
    · intro h0
      subst h0
      have hp : sortP acc = ptsFor M node := sortP_eq_of_perm (by have := HI.out.2.2.2; simpa using this)
      have HP := Lib.hid hp
      clear hp
      obtain ⟨A, c, hu, hc⟩ := own_slice HOWN.out
      subst hu
      go_wp2_with fail
      refine (sortpts_any w.heap.size acc _ acc.length wr HOWN.out (by omega)).mono ?_
      rintro e w2 ⟨rfl, hown2, hg2⟩
      rw [HP.out] at hown2
      have hla : (ptsFor M node).length = acc.length := by rw [← HP.out, length_sortP]
      have HLA := Lib.hid hla
      have HO2 := Lib.hid hown2
      have hf2 := HI.out.2.1.appended HOWN.out (Nat.le_refl _) hg2
      have HF2 := Lib.hid hf2
      clear hown2 hg2 hf2 hla
      go_wp2_with fail
      rw [Exit.noGoto_ret]
      go_ret
      have hfl : (forL M node most).length = (min (↑acc.length) (max most 0)).toNat := by
        unfold forL
        rw [List.length_take, HLA.out]
        omega
      refine ⟨A, c, ?_, ?_, HF2.out, own_lo HO2.out⟩
      · show Ending.returned (.slice A (min (↑acc.length) (max most 0)).toNat c) = _
        rw [hfl]
      · have hr := Rd.of_own HO2.out
        have := hr.prefix_ (m := (forL M node most).length) (by rw [hfl]; omega)
        rw [ptCells_take] at this
        have e : (ptsFor M node).take (forL M node most).length = forL M node most := by
          unfold forL
          rw [List.length_take, List.take_eq_take_iff]
          omega
        rw [e] at this
        exact this
    · intro x w1 hx hit1 hf1 hs1 hent
      have HX := Lib.hid hx
      have HIT1 := Lib.hid hit1
      have HF1 := Lib.hid hf1
      have HS1 := Lib.hid hs1
      have hfr : Fr [] w w1 := HI.out.2.1.trans hf1 (fun k hk hlt => by simp at hk; omega)
      have HFR := Lib.hid hfr
      have hsz1 := hfr.size
      have HO1 : Hid (w1.ownsRow w.heap.size 31 6 u7 acc.length (ptCells acc)) := Lib.hid (own_fr HOWN.out hf1 fun j hj hin => by
        simp at hin
        subst hin
        exact own_ne_iter HOWN.out HI.out.1 hj)
      clear hx hit1 hf1 hs1 hfr
      by_cases hnode : x.n = node
      · have hq : (x.n != node) = false := by simp [hnode]
        have HND := Lib.hid hnode
        clear hnode
        go_wp2_with (at_builtin; refine wpList_append_one rfl _ _ 22 rfl w.heap.size 31 _ 6 56 Try.underlying22 info_pt rfl (by omega) _ _ _ rfl ((HO1.out.alloc _).alloc _) (w1.heap.size + 1) #[.string x.p.s, .int .i64 x.p.t, .int .i64 x.p.v, .int .i64 x.p.c, .int .i64 x.p.i, .int .i64 x.p.q] 31 (by rfl) (heap_alloc_at (by simp)) rfl (by simp [Value.oneCell']) (by unfold maxLen; omega) (by omega) (by simp; omega) ?_; intro v3 w3 hown3 hg3; go_frame)
        have hit3 : HIter w3 m w.heap.size M (strike todo x) := by
          have h2 := (HIT1.out.alloc (.cells #[.string x.p.s, .int .i64 x.p.t, .int .i64 x.p.v, .int .i64 x.p.c, .int .i64 x.p.i, .int .i64 x.p.q, .int .i64 x.n] 66)).alloc (.cells #[.string x.p.s, .int .i64 x.p.t, .int .i64 x.p.v, .int .i64 x.p.c, .int .i64 x.p.i, .int .i64 x.p.q] 31)
          have ho := (HO1.out.alloc (.cells #[.string x.p.s, .int .i64 x.p.t, .int .i64 x.p.v, .int .i64 x.p.c, .int .i64 x.p.i, .int .i64 x.p.q, .int .i64 x.n] 66)).alloc (.cells #[.string x.p.s, .int .i64 x.p.t, .int .i64 x.p.v, .int .i64 x.p.c, .int .i64 x.p.i, .int .i64 x.p.q] 31)
          exact IterIs.appended h2 (own_ne_map ho (IterIs.map h2)) (own_ne_iter ho h2) hg3
        go_roundw
        case rel =>
          refine ⟨strike todo x, acc ++ [x.p], by simpa [ptCells, Pt.cells] using hown3, Lib.hid ⟨hit3, ?_, HI.out.2.2.1.filter _, pperm_yes HI.out.2.2.2 HI.out.2.2.1 HX.out HND.out⟩⟩
          exact ((HFR.out.alloc _).alloc _).appended ((HO1.out.alloc _).alloc _) (Nat.le_refl _) hg3
        case measure =>
          rw [hit3.left, HI.out.1.left]
          exact strike_lt HX.out
      · have hq : (x.n != node) = true := by simp [hnode]
        have HND := Lib.hid hnode
        clear hnode
        go_wp2_with fail
        go_roundw
        case rel =>
          exact ⟨strike todo x, acc, HO1.out.alloc _, Lib.hid ⟨HIT1.out.alloc _, HFR.out.alloc _, HI.out.2.2.1.filter _, pperm_no HI.out.2.2.2 HND.out⟩⟩
        case measure =>
          rw [(HIT1.out.alloc _).left, HI.out.1.left]
          exact strike_lt HX.out
theorem for_any (b m : Nat) (cap node most : Int) (M : List Hnt) (w : World) (h : IsHints w b (some m) cap M) (hM : M.length ≤ 100000) :
    Calls Try.prog 15 #[.pointer (some ⟨b, 0, none⟩), .int .i64 node, .int .i64 most] w (PPts (forL M node most) w) :=
  (for_own b m cap node most M w h hM).mono fun _ _ ⟨A, c, he, hr, hf, _⟩ => ⟨A, c, he, hr, hf⟩
end Go.Proofs.Ytmlelggakadpdaa
