/-
  The program's hints: nodes, Owed, Nodes.
-/
import Derived.Test.YtmlelggakadpdaaImp3
namespace Go.Proofs.Ytmlelggakadpdaa
open Go.RowKit

theorem info_int : (Try.prog.info? 3).map (fun i => (i.zero, i.size, i.bytes)) = some (some (.int .i64 0), 1, 8) := by kernel_rfl
def PInts (l : List Int) (w : World) (e : Ending) (w' : World) : Prop := ∃ A c, e = .returned (.slice A l.length c) ∧ Rd w' w'.heap.size 1 A l.length (intCells l) ∧ Fr [] w w'
/-- The nodes of the hints of which f is so, rising, each once. -/
def nodesOf (M : List Hnt) (f : Pt → Bool) : List Int := compI (sortI ((M.filter (fun x => f x.p)).map (·.n)))

theorem sortI_eq_of_perm {l m : List Int} (h : l.Perm m) : sortI l = sortI m := by
  have h1 := sortI_sorted l
  have h2 := sortI_sorted m
  have hp : (sortI l).Perm (sortI m) := (sortI_perm l).trans (h.trans (sortI_perm m).symm)
  exact hp.eq_of_pairwise (fun a b _ _ h1 h2 => Int.le_antisymm h1 h2) h1 h2

/-- A function that tells f of a point, in every world that leaves w's blocks as they are. -/
def Tells (g : Nat) (cb : Array Value) (f : Pt → Bool) (w : World) : Prop :=
  ∀ (W : World) (x : Pt), Fr [] w W → Calls Try.prog g (#[.agg #[.string x.s, .int .i64 x.t, .int .i64 x.v, .int .i64 x.c, .int .i64 x.i, .int .i64 x.q]] ++ cb) W (PBool (f x) W)

set_option maxHeartbeats 400000 in
theorem nodes_none (fv : Value) (w : World) : Calls Try.prog 37 #[.pointer none, fv] w fun e w' => e = .returned (.slice none 0 0) ∧ w = w' := by
  go_enter Try.func37, Try.ntmps37
  go_wp2
  go_ret
  exact ⟨rfl, rfl⟩

theorem perm_yes {acc : List Int} {todo M : List Hnt} {f : Pt → Bool} {x : Hnt} (h : (acc ++ (todo.filter (fun x => f x.p)).map (·.n)).Perm ((M.filter (fun x => f x.p)).map (·.n))) (hn : todo.Nodup) (hx : x ∈ todo) (hf : f x.p = true) :
    (acc ++ [x.n] ++ ((strike todo x).filter (fun x => f x.p)).map (·.n)).Perm ((M.filter (fun x => f x.p)).map (·.n)) := by
  refine List.Perm.trans ?_ h
  rw [List.append_assoc]
  refine List.Perm.append_left acc ?_
  have h1 : (todo.filter (fun x => f x.p)).Perm (x :: (strike todo x).filter (fun x => f x.p)) := by
    have : todo.Perm (x :: strike todo x) := by
      have e := List.perm_cons_erase hx
      rw [List.Nodup.erase_eq_filter hn] at e
      unfold strike
      refine e.trans (List.Perm.cons x ?_)
      rw [show (fun y : Hnt => decide (y ≠ x)) = (fun y => y != x) by funext y; simp [bne]; rfl]
    have := this.filter (fun x => f x.p)
    rwa [List.filter_cons_of_pos (by simpa using hf)] at this
  have := (h1.map (·.n)).symm
  simpa using this
theorem perm_no {acc : List Int} {todo M : List Hnt} {f : Pt → Bool} {x : Hnt} (h : (acc ++ (todo.filter (fun x => f x.p)).map (·.n)).Perm ((M.filter (fun x => f x.p)).map (·.n))) (hf : f x.p = false) :
    (acc ++ ((strike todo x).filter (fun x => f x.p)).map (·.n)).Perm ((M.filter (fun x => f x.p)).map (·.n)) := by
  have : (strike todo x).filter (fun x => f x.p) = todo.filter (fun x => f x.p) := by
    unfold strike
    rw [List.filter_filter]
    refine List.filter_congr fun y _ => ?_
    by_cases e : y = x
    · subst e; simp [hf]
    · simp [e]
  rw [this]; exact h

set_option maxRecDepth 100000 in
set_option maxHeartbeats 3200000 in
theorem nodes_any (b m : Nat) (most : Int) (M : List Hnt) (f : Pt → Bool) (g : Nat) (cb : Array Value) (w : World) (h : IsHints w b (some m) most M) (hM : M.length ≤ 100000) (eg : ∀ args w, (callFunc g args).run Try.prog w = .ok (.enter g args) w) (ht : Tells g cb f w) :
    Calls Try.prog 37 #[.pointer (some ⟨b, 0, none⟩), .func (.func g) #[] cb] w (PInts (nodesOf M f) w) := by
  have H := Lib.hid h
  have HT := Lib.hid ht
  have k1 := h.ref
  have hbl := h.lt
  have hmap := h.some_ m rfl
  have HMP := Lib.hid hmap
  clear h hmap ht
  go_enter Try.func37, Try.ntmps37
  go_wp2_with (at_range; refine wpList_range_h rfl _ rfl rfl HMP.out ?_; intro w0 hit0 hg0 hs0; go_frame)
  have HG0 := Lib.hid hg0
  have HIT0 := Lib.hid hit0
  clear hg0 hit0
  go_loopw [5] (fun u wr => ∃ (todo : List Hnt) (acc : List Int), wr.ownsRow w.heap.size 3 1 u acc.length (intCells acc) ∧ Hid (HIter wr m w.heap.size M todo ∧ Fr [] w wr ∧ todo.Nodup ∧ (acc ++ (todo.filter (fun x => f x.p)).map (·.n)).Perm ((M.filter (fun x => f x.p)).map (·.n))))
    (fun _ wr => wr.rangeLeft m w.heap.size)
  case atStart => exact ⟨M, [], World.ownsRow_nil _ _ _ _, Lib.hid ⟨HIT0.out, HG0.out.fr _, HMP.out.nodup, by simp⟩⟩
  case round =>
    obtain ⟨todo, acc, hown, HI⟩ := hrel
    have HOWN := Lib.hid hown
    clear hown
    go_wp2_with (at_next; refine wpList_next_h rfl _ rfl rfl HI.out.1 ?_ ?_)
    · intro h0
      subst h0
      have hp : sortI acc = sortI ((M.filter (fun x => f x.p)).map (·.n)) := sortI_eq_of_perm (by have := HI.out.2.2.2; simpa using this)
      have HP := Lib.hid hp
      have hlen : acc.length ≤ M.length := by
        have := HI.out.2.2.2.length_eq
        have h2 := List.length_filter_le (fun x : Hnt => f x.p) M
        simp at this
        omega
      clear hp
      go_wp2_with fail
      refine (sorti_any w.heap.size acc u5 acc.length wr HOWN.out (by omega)).mono ?_
      rintro e w2 ⟨rfl, hown2, hg2⟩
      have HO2 := Lib.hid hown2
      have hf2 := HI.out.2.1.appended HOWN.out (Nat.le_refl _) hg2
      have HF2 := Lib.hid hf2
      clear hown2 hg2 hf2
      go_wp2_with fail
      refine (compact_any w.heap.size (sortI acc) u5 acc.length w2 HO2.out (by omega)).mono ?_
      rintro e w3 ⟨A, c, rfl, hown3, hg3, _⟩
      have hr : compI (sortI acc) = nodesOf M f := by unfold nodesOf; rw [HP.out]
      rw [hr] at hown3 ⊢
      have HO3 := Lib.hid hown3
      have hf3 := HF2.out.appended HO2.out (Nat.le_refl _) hg3
      have HF3 := Lib.hid hf3
      clear hown3 hg3 hf3 hr
      go_wp2_with fail
      go_ret
      exact ⟨A, c, rfl, Rd.of_own HO3.out, HF3.out⟩
    · intro x w1 hx hit1 hf1 hs1 hent
      have HX := Lib.hid hx
      have HIT1 := Lib.hid hit1
      have HF1 := Lib.hid hf1
      have HS1 := Lib.hid hs1
      clear hx hit1 hf1 hs1
      go_wp2_with fail
      have hfr : Fr [] w w1 := HI.out.2.1.trans HF1.out (fun k hk hlt => by simp at hk; omega)
      have HFR := Lib.hid hfr
      have hsz1 := hfr.size
      have HO1 : Hid (w1.ownsRow w.heap.size 3 1 u5 acc.length (intCells acc)) := Lib.hid (own_fr HOWN.out HF1.out fun j hj hin => by
        simp at hin
        subst hin
        exact own_ne_iter HOWN.out HI.out.1 hj)
      clear hfr
      refine (HT.out _ x.p (HFR.out.alloc _)).mono ?_
      rintro e w2 ⟨rfl, hg2⟩
      have hz2 := hg2.size
      simp at hz2
      have c6 : w2.cell? ⟨w1.heap.size, 6, none⟩ = some (.int .i64 x.n) := by rw [hg2.cell (a := ⟨w1.heap.size, 6, none⟩) (by simp)]; simp [go_sem]
      have HG2 := Lib.hid hg2
      have hO2 : w2.ownsRow w.heap.size 3 1 u5 acc.length (intCells acc) := own_fr (HO1.out.alloc _) (hg2.fr []) (by simp)
      have HO2 := Lib.hid hO2
      have hlen : acc.length ≤ M.length := by
        have := HI.out.2.2.2.length_eq
        have h2 := List.length_filter_le (fun x : Hnt => f x.p) M
        simp at this
        omega
      clear hg2 hO2
      cases hf : f x.p
      · have HFX := Lib.hid hf
        clear hf
        go_wp2_with fail
        go_roundw
        case rel =>
          exact ⟨strike todo x, acc, HO2.out, Lib.hid ⟨(HIT1.out.alloc _).fr (HG2.out.fr []) (by simp) (by simp), (HFR.out.alloc _).trans' (HG2.out.fr []), HI.out.2.2.1.filter _, perm_no HI.out.2.2.2 HFX.out⟩⟩
        case measure =>
          rw [((HIT1.out.alloc _).fr (HG2.out.fr []) (by simp) (by simp)).left, HI.out.1.left]
          exact strike_lt HX.out
      · have HFX := Lib.hid hf
        clear hf
        go_wp2_with (at_builtin; refine wpList_append_one rfl _ _ 23 rfl w.heap.size 3 _ 1 8 Try.underlying23 info_int rfl (by omega) _ _ _ rfl (HO2.out.alloc _) w2.heap.size #[.int .i64 x.n] 3 (by rfl) (heap_alloc_at (by simp)) rfl (by simp [Value.oneCell']) (by unfold maxLen; omega) (by omega) (by simp; omega) ?_; intro v3 w3 hown3 hg3; go_frame)
        have hit3 : HIter w3 m w.heap.size M (strike todo x) := by
          have h2 := ((HIT1.out.alloc (.cells #[.string x.p.s, .int .i64 x.p.t, .int .i64 x.p.v, .int .i64 x.p.c, .int .i64 x.p.i, .int .i64 x.p.q, .int .i64 x.n] 66)).fr (HG2.out.fr []) (by simp) (by simp)).alloc (.cells #[.int .i64 x.n] 3)
          have ho := HO2.out.alloc (.cells #[.int .i64 x.n] 3)
          exact IterIs.appended h2 (own_ne_map ho (IterIs.map h2)) (own_ne_iter ho h2) hg3
        go_roundw
        case rel =>
          refine ⟨strike todo x, acc ++ [x.n], by simpa [intCells] using hown3, Lib.hid ⟨hit3, ?_, HI.out.2.2.1.filter _, perm_yes HI.out.2.2.2 HI.out.2.2.1 HX.out HFX.out⟩⟩
          exact (((HFR.out.alloc _).trans' (HG2.out.fr [])).alloc _).appended (HO2.out.alloc _) (Nat.le_refl _) hg3
        case measure =>
          rw [hit3.left, HI.out.1.left]
          exact strike_lt HX.out

set_option maxHeartbeats 400000 in
theorem yes_tells (w : World) : Tells 38 #[] (fun _ => true) w := by
  intro W x _
  show Calls Try.prog 38 #[.agg #[.string x.s, .int .i64 x.t, .int .i64 x.v, .int .i64 x.c, .int .i64 x.i, .int .i64 x.q]] W _
  go_enter Try.func38, Try.ntmps38
  go_wp2
  go_ret
  exact PBool.mk rfl ((Grew.refl _).alloc _)

set_option maxHeartbeats 400000 in
theorem owed_tells (p : Pt) (w : World) (bp : Nat) (hb : bp < w.heap.size) (g0 : w.cell? ⟨bp, 0, none⟩ = some (.string p.s)) (g1 : w.cell? ⟨bp, 1, none⟩ = some (.int .i64 p.t)) (g2 : w.cell? ⟨bp, 2, none⟩ = some (.int .i64 p.v))
    (g3 : w.cell? ⟨bp, 3, none⟩ = some (.int .i64 p.c)) (g4 : w.cell? ⟨bp, 4, none⟩ = some (.int .i64 p.i)) (g5 : w.cell? ⟨bp, 5, none⟩ = some (.int .i64 p.q)) :
    Tells 39 #[.pointer (some ⟨bp, 0, none⟩)] (fun x => decide (x = p)) w := by
  intro W x hf
  show Calls Try.prog 39 #[.agg #[.string x.s, .int .i64 x.t, .int .i64 x.v, .int .i64 x.c, .int .i64 x.i, .int .i64 x.q], .pointer (some ⟨bp, 0, none⟩)] W _
  have k0 := (hf.cell (a := ⟨bp, 0, none⟩) hb (by simp)).trans g0
  have k1 := (hf.cell (a := ⟨bp, 1, none⟩) hb (by simp)).trans g1
  have k2 := (hf.cell (a := ⟨bp, 2, none⟩) hb (by simp)).trans g2
  have k3 := (hf.cell (a := ⟨bp, 3, none⟩) hb (by simp)).trans g3
  have k4 := (hf.cell (a := ⟨bp, 4, none⟩) hb (by simp)).trans g4
  have k5 := (hf.cell (a := ⟨bp, 5, none⟩) hb (by simp)).trans g5
  have hb' : bp < W.heap.size := Nat.lt_of_lt_of_le hb hf.size
  have hgd := pt_guard
  have heq := run_eql_pt x p
  clear g0 g1 g2 g3 g4 g5 hf
  cases hd : decide (x = p)
  all_goals
    rw [hd] at heq
    have HD := Lib.hid hd
    clear hd
    go_enter Try.func39, Try.ntmps39
    go_wp2
    go_ret
    exact PBool.mk HD.out.symm ((Grew.refl _).alloc _)

set_option maxHeartbeats 800000 in
theorem allnodes_any (b m : Nat) (most : Int) (M : List Hnt) (w : World) (h : IsHints w b (some m) most M) (hM : M.length ≤ 100000) :
    Calls Try.prog 17 #[.pointer (some ⟨b, 0, none⟩)] w (PInts (nodesOf M (fun _ => true)) w) := by
  have hc := nodes_any b m most M (fun _ => true) 38 #[] w h hM (enters_of Try.func38 (by kernel_rfl) rfl) (yes_tells w)
  have HC := Lib.hid hc
  clear hc h
  go_enter Try.func17, Try.ntmps17
  go_wp2_with fail
  refine HC.out.mono ?_
  rintro e w1 ⟨A, c, rfl, hr, hf⟩
  have HR := Lib.hid hr
  have HF := Lib.hid hf
  clear hr hf
  go_wp2_with fail
  go_ret
  exact ⟨A, c, rfl, HR.out, HF.out⟩

set_option maxHeartbeats 800000 in
theorem owed_any (b m : Nat) (most : Int) (M : List Hnt) (p : Pt) (w : World) (h : IsHints w b (some m) most M) (hM : M.length ≤ 100000) :
    Calls Try.prog 20 #[.pointer (some ⟨b, 0, none⟩), .agg #[.string p.s, .int .i64 p.t, .int .i64 p.v, .int .i64 p.c, .int .i64 p.i, .int .i64 p.q]] w (PInts (nodesOf M (fun x => decide (x = p))) w) := by
  have ho := owed_tells p (w.alloc (.cells #[.string p.s, .int .i64 p.t, .int .i64 p.v, .int .i64 p.c, .int .i64 p.i, .int .i64 p.q] 31)) w.heap.size (by simp) (by simp [go_sem]) (by simp [go_sem]) (by simp [go_sem]) (by simp [go_sem]) (by simp [go_sem]) (by simp [go_sem])
  have hc := nodes_any b m most M (fun x => decide (x = p)) 39 #[.pointer (some ⟨w.heap.size, 0, none⟩)] _ (h.grew ((Grew.refl _).alloc _)) hM (enters_of Try.func39 (by kernel_rfl) rfl) ho
  have HC := Lib.hid hc
  clear hc h ho
  go_enter Try.func20, Try.ntmps20
  go_wp2_with fail
  refine HC.out.mono ?_
  rintro e w1 ⟨A, c, rfl, hr, hf⟩
  have HR := Lib.hid hr
  have HF := Lib.hid hf
  clear hr hf
  go_wp2_with fail
  go_ret
  exact ⟨A, c, rfl, HR.out, ((Fr.refl [] w).alloc _).trans' HF.out⟩
end Go.Proofs.Ytmlelggakadpdaa
