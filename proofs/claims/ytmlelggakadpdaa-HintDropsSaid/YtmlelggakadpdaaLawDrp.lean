/-
  The statement HintDrops: the walk of the law, in every world.
-/
import Derived.Test.YtmlelggakadpdaaRNod
import Derived.Test.YtmlelggakadpdaaDrpP
import Derived.Deep.CutBlock
import Derived.Deep.AppendLies
import Derived.Deep.RegionLaw
namespace Go.Proofs.Ytmlelggakadpdaa
open Go.RowKit

theorem addR_le {M : List Hnt} {most : Int} {p : Pt} {nodes : List Int} (h : (M.length : Int) ≤ most) : ((addR M most p nodes).2.length : Int) ≤ most := by
  unfold addR
  split
  · rename_i hc
    simp at hc
    simp; omega
  · exact h
/-- What is kept once k of the points have been added. -/
def addsM (nodes : List Int) (L : List Pt) (k : Nat) : List Hnt := (L.take k).foldl (fun M p => (addR M 600 (smallP p) nodes).2) []
theorem addsM_succ (nodes : List Int) {L : List Pt} {k : Nat} {p : Pt} (h : L[k]? = some p) : addsM nodes L (k + 1) = (addR (addsM nodes L k) 600 (smallP p) nodes).2 := by
  unfold addsM
  rw [List.take_add_one, h, List.foldl_append]; rfl
theorem addsM_le (nodes : List Int) (L : List Pt) (k : Nat) : ((addsM nodes L k).length : Int) ≤ 600 := by
  unfold addsM
  have : ∀ (l : List Pt) (M : List Hnt), (M.length : Int) ≤ 600 → ((l.foldl (fun M p => (addR M 600 (smallP p) nodes).2) M).length : Int) ≤ 600 := by
    intro l
    induction l with
    | nil => intro M h; exact h
    | cons p l ih => intro M h; exact ih _ (addR_le h)
  exact this _ [] (by simp)
theorem addsM_in (nodes : List Int) (L : List Pt) (k : Nat) : ∀ x ∈ addsM nodes L k, x.n ∈ ref9 nodes := by
  unfold addsM
  have : ∀ (l : List Pt) (M : List Hnt), (∀ x ∈ M, x.n ∈ ref9 nodes) → ∀ x ∈ l.foldl (fun M p => (addR M 600 (smallP p) nodes).2) M, x.n ∈ ref9 nodes := by
    intro l
    induction l with
    | nil => intro M h; exact h
    | cons p l ih =>
      intro M h
      refine ih _ fun x hx => ?_
      show x.n ∈ ref9 nodes
      change x ∈ (addR M 600 (smallP p) nodes).2 at hx
      unfold addR at hx
      split at hx
      · rcases List.mem_append.1 hx with hx | hx
        · exact h x hx
        · obtain ⟨_, h1, h2, _⟩ := (mem_moreOf _ _ _ _).1 hx
          exact (mem_ref9 _ _).2 ⟨h1, h2⟩
      · exact h x hx
  exact this _ [] (by simp)

/-- A slice value that reads as the points l, its block between lo and hi. -/
def RowAt (w : World) (lo hi : Nat) (v : Value) (l : List Pt) : Prop := ∃ A c, v = .slice A l.length c ∧ Rd w hi 6 A l.length (ptCells l) ∧ ∀ g off, A = some ⟨g, off, none⟩ → lo ≤ g
theorem RowAt.keep {w w' : World} {lo hi : Nat} {v : Value} {l : List Pt} (h : RowAt w lo hi v l) (hk : ∀ g, lo ≤ g → g < hi → w'.heap[g]? = w.heap[g]?) : RowAt w' lo hi v l := by
  obtain ⟨A, c, rfl, hr, hlo⟩ := h
  refine ⟨A, c, rfl, ⟨hr.len, fun hn => ?_⟩, hlo⟩
  obtain ⟨b, off, e, hb, hc⟩ := hr.cells hn
  exact ⟨b, off, e, hb, fun j u hu => (World.cell?_of_block (hk b (hlo b off e) hb)).trans (hc j u hu)⟩
theorem RowAt.more {w : World} {lo hi hi' : Nat} {v : Value} {l : List Pt} (h : RowAt w lo hi v l) (hh : hi ≤ hi') : RowAt w lo hi' v l := by
  obtain ⟨A, c, rfl, hr, hlo⟩ := h
  exact ⟨A, c, rfl, hr.more hh, hlo⟩
/-- The array of 16 rows in block bh: where F tells a list, the row reads so; else it is nil. -/
def HadIs (w : World) (bh hi : Nat) (F : Nat → Option (List Pt)) : Prop :=
  ∀ n, n < 16 → w.frozen? ⟨bh, n, none⟩ = false ∧ (F n = none → w.cell? ⟨bh, n, none⟩ = some (.slice none 0 0)) ∧ ∀ l, F n = some l → ∃ v, w.cell? ⟨bh, n, none⟩ = some v ∧ RowAt w (bh + 1) hi v l
theorem HadIs.keep {w w' : World} {bh hi : Nat} {F : Nat → Option (List Pt)} (h : HadIs w bh hi F) (hk : ∀ g, bh ≤ g → g < hi → w'.heap[g]? = w.heap[g]?) (hh : bh < hi) : HadIs w' bh hi F := by
  intro n hn
  obtain ⟨h1, h2, h3⟩ := h n hn
  have hb := hk bh (Nat.le_refl _) hh
  refine ⟨(World.frozen?_of_block hb).trans h1, fun e => (World.cell?_of_block hb).trans (h2 e), fun l e => ?_⟩
  obtain ⟨v, hv, hr⟩ := h3 l e
  exact ⟨v, (World.cell?_of_block hb).trans hv, hr.keep fun g h1 h2 => hk g (by omega) h2⟩
theorem HadIs.more {w : World} {bh hi hi' : Nat} {F : Nat → Option (List Pt)} (h : HadIs w bh hi F) (hh : hi ≤ hi') : HadIs w bh hi' F := fun n hn => by
  obtain ⟨h1, h2, h3⟩ := h n hn
  exact ⟨h1, h2, fun l e => by obtain ⟨v, hv, hr⟩ := h3 l e; exact ⟨v, hv, hr.more hh⟩⟩
theorem cell_off_new (w : World) (cs : Array Value) (t : TypeId) (j : Nat) (u : Value) (h : cs.toList[j]? = some u) : ((w.alloc (.cells cs t)).drew).cell? ((⟨w.heap.size, 0, none⟩ : Addr).add j) = some u := by
  have hadd : (⟨w.heap.size, 0, none⟩ : Addr).add j = ⟨w.heap.size, j, none⟩ := by unfold Addr.add; split <;> simp_all
  rw [hadd]
  show (w.alloc (.cells cs t)).cell? _ = _
  rw [cell_of_row _ _ _ cs t (0, 0) (heap_alloc_new w _)]
  simpa using h
/-- append, by an equation on its run, as a step of a region that draws. -/
theorem step_append_run {P : Program} {ops : Array Oper} {o : Oper} {a : Act} {w : World} {K : Act → World → Prop} {Q : Exit → Act → World → Prop} {E : Prop} (hgd : o.guard = none) (s x : Operand) (t : TypeId)
    (ho : o.op = .call { callee := .builtin .append, args := #[s, x], argTypes := #[t, t] }) (v y u : Value) (w' : World) (hs : a.eval s = v) (hx : a.eval x = y) (hrun : (Builtin.append_ #[t, t] o.type #[v, y]).run P w = .ok u w')
    (h : K (a.put o.dst u) w') : if Region.wanted o (yielded ops a.tmps) = true then Oper.wp P o a w K Q else E := by
  have hw : Region.wanted o (yielded ops a.tmps) = true := by simp [Region.wanted, hgd]
  rw [if_pos hw]
  unfold Oper.wp execOp
  simp only [ho, resolve, invoke, builtin, Sem.run_bind, Sem.run_pure, Result.andThen_ok, List.map_toArray, List.map_cons, List.map_nil, hs, hx, hrun]
  exact h
/-- What the first i nodes of the list have had. -/
def hadF (M : List Hnt) (t : Int) (all : List Int) (i : Nat) (n : Nat) : Option (List Pt) := if (n : Int) ∈ all.take i then some ((ptsFor M n).filter (fun p => decide (t ≤ p.t))) else none

theorem drp_rel {w5 wr w7 : World} {bh an : Nat} {v : Value} {xs : List Pt} {p : Pt} {g cap : Nat} (hbh : bh < w5.heap.size) (d7 : w7.cell? ⟨bh, an, none⟩ = some v) (f7 : w7.frozen? ⟨bh, an, none⟩ = false) (h1 : Fr [bh] w5 wr)
    (h2 : wr.ownsRow w5.heap.size 31 6 v xs.length (ptCells xs)) (h3 : ∀ n, (n ≠ an → wr.cell? ⟨bh, n, none⟩ = w5.cell? ⟨bh, n, none⟩) ∧ wr.frozen? ⟨bh, n, none⟩ = w5.frozen? ⟨bh, n, none⟩) (hf7 : Fr v.ownBlock.toList wr w7)
    (ho7 : w7.ownsRow w5.heap.size 31 6 (.slice (some ⟨g, 0, none⟩) (xs.length + 1) cap) (xs.length + 1) (ptCells xs ++ p.cells)) :
    ∃ v', (w7.setCell ⟨bh, an, none⟩ (.slice (some ⟨g, 0, none⟩) (xs.length + 1) cap)).cell? ⟨bh, an, none⟩ = some v' ∧ (w7.setCell ⟨bh, an, none⟩ (.slice (some ⟨g, 0, none⟩) (xs.length + 1) cap)).frozen? ⟨bh, an, none⟩ = false ∧
      Hid (Fr [bh] w5 (w7.setCell ⟨bh, an, none⟩ (.slice (some ⟨g, 0, none⟩) (xs.length + 1) cap)) ∧ (w7.setCell ⟨bh, an, none⟩ (.slice (some ⟨g, 0, none⟩) (xs.length + 1) cap)).ownsRow w5.heap.size 31 6 v' (xs ++ [p]).length (ptCells (xs ++ [p])) ∧
        ∀ n, (n ≠ an → (w7.setCell ⟨bh, an, none⟩ (.slice (some ⟨g, 0, none⟩) (xs.length + 1) cap)).cell? ⟨bh, n, none⟩ = w5.cell? ⟨bh, n, none⟩) ∧
          (w7.setCell ⟨bh, an, none⟩ (.slice (some ⟨g, 0, none⟩) (xs.length + 1) cap)).frozen? ⟨bh, n, none⟩ = w5.frozen? ⟨bh, n, none⟩) := by
  have hov : ∀ g ∈ v.ownBlock.toList, w5.heap.size ≤ g := fun g hg => (h2.lt g (by simpa using hg)).1
  have hfs : Fr [bh] w7 (w7.setCell ⟨bh, an, none⟩ (.slice (some ⟨g, 0, none⟩) (xs.length + 1) cap)) := (Fr.refl _ _).setCell (by simp) _
  have hf57 : Fr [bh] w5 w7 := h1.trans hf7 (fun k hk hlt => by have := hov k hk; omega)
  refine ⟨_, World.cell?_setCell_same' _ _ _ (by rw [d7]; rfl), by rw [World.frozen?_setCell]; exact f7, Lib.hid ⟨hf57.trans' hfs, ?_, fun n => ⟨fun hn => ?_, ?_⟩⟩⟩
  · have : ptCells (xs ++ [p]) = ptCells xs ++ p.cells := by simp [ptCells]
    rw [this, List.length_append]
    refine own_fr ho7 hfs fun k hk hin => ?_
    have := (ho7.lt k hk).1
    simp at hin
    omega
  · rw [World.cell?_setCell_other _ _ _ _ (fun e => hn (congrArg Addr.off e).symm)]
    exact ((hf7.cell (a := ⟨bh, n, none⟩) (Nat.lt_of_lt_of_le hbh h1.size) (fun hin => by have := hov bh hin; omega))).trans ((h3 n).1 hn)
  · rw [World.frozen?_setCell]
    exact (World.frozen?_of_block (hf7.block bh (Nat.lt_of_lt_of_le hbh h1.size) (fun hin => by have := hov bh hin; omega))).trans (h3 n).2

theorem HF.cell {W w' w'' : World} (h : HF W w') (g : Fr [] w' w'') {b o : Nat} (hb : b < W.heap.size) : w''.cell? ⟨b, o, none⟩ = w'.cell? ⟨b, o, none⟩ :=
  g.cell (Nat.lt_of_lt_of_le hb h.gr.size) (by simp)
theorem HF.trans {W w' w'' : World} (h : HF W w') (g : Fr [] w' w'') : HF W w'' := HF.mk (h.gr.trans' g)
theorem had_step {w5 wr : World} {bh an : Nat} {F : Nat → Option (List Pt)} {v : Value} {xs : List Pt} (h5 : HadIs w5 bh w5.heap.size F) (hbh : bh < w5.heap.size) (hcv : wr.cell? ⟨bh, an, none⟩ = some v) (hf : Fr [bh] w5 wr)
    (ho : wr.ownsRow w5.heap.size 31 6 v xs.length (ptCells xs)) (hoth : ∀ n, (n ≠ an → wr.cell? ⟨bh, n, none⟩ = w5.cell? ⟨bh, n, none⟩) ∧ wr.frozen? ⟨bh, n, none⟩ = w5.frozen? ⟨bh, n, none⟩) :
    HadIs wr bh wr.heap.size (fun n => if n = an then some xs else F n) := by
  intro n hn
  obtain ⟨h1, h2, h3⟩ := h5 n hn
  refine ⟨(hoth n).2.trans h1, fun e => ?_, fun l e => ?_⟩
  · by_cases hna : n = an
    · simp [hna] at e
    · simp [hna] at e
      exact ((hoth n).1 hna).trans (h2 e)
  · by_cases hna : n = an
    · simp [hna] at e
      subst e hna
      obtain ⟨A, c, rfl, _⟩ := own_slice ho
      refine ⟨_, hcv, A, c, rfl, Rd.of_own ho, fun g off hg => ?_⟩
      have := own_lo ho g off hg
      omega
    · simp [hna] at e
      obtain ⟨v', hv', hr⟩ := h3 l e
      refine ⟨v', ((hoth n).1 hna).trans hv', (hr.keep fun g hg1 hg2 => hf.block g hg2 (by simp; omega)).more hf.size⟩

set_option maxRecDepth 100000 in
set_option maxHeartbeats 6400000 in
theorem drops_any (A A' : Option Addr) (n c n' c' : Nat) (l : List Pt) (nodes0 : List Int) (t : Int) (w : World) (hr : Rd w w.heap.size 6 A n (ptCells l)) (hs : ∀ x ∈ l, x.s.size ≤ maxLen) (hn : n ≤ maxLen)
    (hr' : Rd w w.heap.size 1 A' n' (intCells nodes0)) (hc' : n' ≤ c') (hm' : c' ≤ maxLen) :
    Calls Try.prog 5 #[.slice A n c, .slice A' n' c', .int .i64 t] w (PBoolF true w) := by
  unfold maxLen at hn hm'
  have HR := Lib.hid hr
  have HS := Lib.hid hs
  have HR' := Lib.hid hr'
  clear hr hs hr'
  go_enter Try.func5, Try.ntmps5
  go_wp2_with fail
  refine (awake_any _).mono ?_
  rintro e w1 ⟨rfl, hf1⟩
  have HF1 := Lib.hid hf1
  clear hf1
  go_wp2_with fail
  refine (new_any 600 _).mono ?_
  rw [show clampI 0 600 600 = 600 by decide]
  rintro e w2 ⟨b, mm, rfl, hI2, hb, hmm, hg2⟩
  have HI2 := Lib.hid hI2
  have HF2 := Lib.hid (HF1.out.trans' (hg2.fr []))
  have hb0 : w.heap.size ≤ b := Nat.le_trans HF1.out.size hb
  have hm0 : w.heap.size ≤ mm := Nat.le_trans HF1.out.size hmm
  clear hI2 hg2 hb hmm
  go_upto_if 24 with fail
  go_cut [1] from 18 (fun s wc => ∃ (m cc : Nat) (nodes : List Int), s = .slice A' m cc ∧ m ≤ 12 ∧ Hid (Rd w w.heap.size 1 A' m (intCells nodes)) ∧ w2 = wc)
  case first =>
    by_cases h12 : 12 < n'
    · obtain ⟨bb, off, rfl, _, _⟩ := HR'.out.cells (by omega)
      go_wp2_with fail
      go_meet
      case rel => exact ⟨12, _, nodes0.take 12, rfl, by omega, Lib.hid (by have := HR'.out.prefix_ (m := 12) (by omega); simpa [intCells] using this), rfl⟩
    · go_wp2_with fail
      go_meet
      case rel => exact ⟨n', c', nodes0, rfl, by omega, HR', rfl⟩
  obtain ⟨m, cc, nodes, rfl, hm12, HRN, rfl⟩ := hcut
  go_upto_block 0 with fail
  go_cut [9] from 18 (fun _ wc => ∃ k : Nat, Hid (IsHints wc b (some mm) 600 (addsM nodes l k) ∧ Fr [] w wc))
  case first =>
    go_wp2_with fail
    go_loopw [9] (fun i wr => ∃ k : Nat, k ≤ n ∧ k ≤ 20 ∧ i = .int .i64 k ∧ Hid (IsHints wr b (some mm) 600 (addsM nodes l k) ∧ Fr [] w wr)) (fun i _ => n - (intOf i).toNat)
    case atStart => exact ⟨0, by omega, by omega, rfl, Lib.hid ⟨HI2.out, HF2.out⟩⟩
    case round =>
      obtain ⟨k, hk, hk20, rfl, HI⟩ := hrel
      have hle := addsM_le nodes l k
      have hsz := HI.out.2.size
      by_cases hlt : k < n
      · by_cases hlt20 : k < 20
        · obtain ⟨bb, off, p, rfl, hbb, hx, g0, g1, g2, g3, g4, g5⟩ := (HR.out.fr HI.out.2 (Nat.le_refl _) (by simp)).pt_at hlt
          have HX := Lib.hid hx
          have hps := HS.out p (List.mem_of_getElem? hx)
          clear hx
          have hd : decide ((k : Int) < 20) = true := by simp; omega
          go_wp2_with fail
          refine (small_any p _ hps).mono ?_
          rintro e w3 ⟨rfl, hg3⟩
          have HG3 := Lib.hid hg3
          clear hg3
          go_wp2_with fail
          refine (add_any b (some mm) 600 (addsM nodes l k) (smallP p) nodes m cc w.heap.size A' _ (HI.out.1.grew HG3.out) (smallP_le p hps) (HRN.out.fr (HI.out.2.trans' (HG3.out.fr [])) (Nat.le_refl _) (by simp)) (by have := HG3.out.size; omega) (by omega) (by omega) (by omega) (by omega) (by simp)).mono ?_
          rintro e w4 ⟨rfl, hI4, hf4⟩
          have HI4 := Lib.hid hI4
          have HF4 := Lib.hid ((HI.out.2.trans' (HG3.out.fr [])).own hf4 (by simpa using hm0))
          clear hI4 hf4
          go_wp2_with fail
          go_roundw
          case rel => exact ⟨k + 1, by omega, by omega, by go_num, by rw [addsM_succ nodes HX.out]; exact Lib.hid ⟨HI4.out, HF4.out⟩⟩
          case measure => simp [intOf]; omega
        · have hd : decide ((k : Int) < 20) = false := by simp; omega
          go_wp2_with fail
          go_meet
          case rel => exact ⟨k, HI⟩
      · go_wp2_with fail
        go_meet
        case rel => exact ⟨k, HI⟩
  obtain ⟨k, HI⟩ := hcut
  have hM := addsM_le nodes l k
  have HMI := Lib.hid (addsM_in nodes l k)
  generalize addsM nodes l k = M at *
  go_wp2_with fail
  refine (rnodes_any nodes m cc w.heap.size A' _ (HRN.out.fr HI.out.2 (Nat.le_refl _) (by simp)) HI.out.2.size (by omega)).mono ?_
  rintro e w3 ⟨A3, c3, rfl, hr3, hf3⟩
  have HR3 := Lib.hid hr3
  have HF3 := Lib.hid (HI.out.2.trans' hf3)
  have HI3 := Lib.hid (HI.out.1.fr hf3 (by simp) (by simp))
  clear hr3 hf3
  go_wp2_with fail
  have hd0 : HadIs (w3.alloc (.cells #[.slice none 0 0, .slice none 0 0, .slice none 0 0, .slice none 0 0, .slice none 0 0, .slice none 0 0, .slice none 0 0, .slice none 0 0, .slice none 0 0, .slice none 0 0, .slice none 0 0, .slice none 0 0, .slice none 0 0, .slice none 0 0, .slice none 0 0, .slice none 0 0] 44)) w3.heap.size (w3.heap.size + 1) (hadF M t (ref9 nodes) 0) := by
    intro n hn
    refine ⟨?_, fun _ => ?_, fun l e => ?_⟩
    · simp [go_sem]
    · have : n = 0 ∨ n = 1 ∨ n = 2 ∨ n = 3 ∨ n = 4 ∨ n = 5 ∨ n = 6 ∨ n = 7 ∨ n = 8 ∨ n = 9 ∨ n = 10 ∨ n = 11 ∨ n = 12 ∨ n = 13 ∨ n = 14 ∨ n = 15 := by omega
      rcases this with rfl | rfl | rfl | rfl | rfl | rfl | rfl | rfl | rfl | rfl | rfl | rfl | rfl | rfl | rfl | rfl <;> simp [go_sem]
    · simp [hadF] at e
  have HD0 := Lib.hid hd0
  have hf4 := HF3.out.alloc (.cells #[.slice none 0 0, .slice none 0 0, .slice none 0 0, .slice none 0 0, .slice none 0 0, .slice none 0 0, .slice none 0 0, .slice none 0 0, .slice none 0 0, .slice none 0 0, .slice none 0 0, .slice none 0 0, .slice none 0 0, .slice none 0 0, .slice none 0 0, .slice none 0 0] 44)
  have hi4 := HI3.out.grew ((Grew.refl _).alloc (.cells #[.slice none 0 0, .slice none 0 0, .slice none 0 0, .slice none 0 0, .slice none 0 0, .slice none 0 0, .slice none 0 0, .slice none 0 0, .slice none 0 0, .slice none 0 0, .slice none 0 0, .slice none 0 0, .slice none 0 0, .slice none 0 0, .slice none 0 0, .slice none 0 0] 44))
  have hr4 := HR3.out.alloc (Nat.le_refl _) (.cells #[.slice none 0 0, .slice none 0 0, .slice none 0 0, .slice none 0 0, .slice none 0 0, .slice none 0 0, .slice none 0 0, .slice none 0 0, .slice none 0 0, .slice none 0 0, .slice none 0 0, .slice none 0 0, .slice none 0 0, .slice none 0 0, .slice none 0 0, .slice none 0 0] 44)
  have hz4 : (w3.alloc (.cells #[.slice none 0 0, .slice none 0 0, .slice none 0 0, .slice none 0 0, .slice none 0 0, .slice none 0 0, .slice none 0 0, .slice none 0 0, .slice none 0 0, .slice none 0 0, .slice none 0 0, .slice none 0 0, .slice none 0 0, .slice none 0 0, .slice none 0 0, .slice none 0 0] 44)).heap.size = w3.heap.size + 1 := by simp
  generalize (w3.alloc (.cells #[.slice none 0 0, .slice none 0 0, .slice none 0 0, .slice none 0 0, .slice none 0 0, .slice none 0 0, .slice none 0 0, .slice none 0 0, .slice none 0 0, .slice none 0 0, .slice none 0 0, .slice none 0 0, .slice none 0 0, .slice none 0 0, .slice none 0 0, .slice none 0 0] 44)) = w4 at *
  have HF4 := Lib.hid hf4
  have HI4 := Lib.hid hi4
  have HR4 := Lib.hid hr4
  have hbb : b < w3.heap.size := HI3.out.lt
  have hmb : mm < w3.heap.size := (HI3.out.some_ mm rfl).lt
  have hw3 := HF3.out.size
  have hlen16 := length_ref9 nodes
  clear hd0 hf4 hi4 hr4
  generalize hbh : w3.heap.size = bh at *
  clear HF3 HI3 HR3 hbh
  generalize hall : ref9 nodes = all at *
  have hnd : all.Nodup := by rw [← hall]; exact ref9_nodup nodes
  have hin : ∀ x ∈ all, 0 ≤ x ∧ x < 16 := fun x hx => by rw [← hall] at hx; exact ((mem_ref9 _ _).1 hx).2
  have HND := Lib.hid hnd
  have HIN := Lib.hid hin
  clear hall hnd hin
  go_wp2_with fail
  go_loopw [12, 13] (fun u i wr => ∃ j : Nat, j ≤ all.length ∧ i = .int .i64 j ∧ u = .int .i64 (goneOf M t (all.take j)) ∧ Hid (Fr [bh] w4 wr ∧ HadIs wr bh wr.heap.size (hadF M t all j))) (fun _ i _ => all.length - (intOf i).toNat)
  case atStart => exact ⟨0, by omega, rfl, rfl, Lib.hid ⟨Fr.refl _ _, HD0.out.more (by omega)⟩⟩
  case round =>
    obtain ⟨j, hj, rfl, rfl, HL⟩ := hrel
    have hszr := HL.out.1.size
    by_cases hlt : j < all.length
    · obtain ⟨b3, off3, x, rfl, hb3, hx, hc3⟩ := (HR4.out.fr HL.out.1 (by omega) (by simp)).int_at hlt
      have hxr := HIN.out x (List.mem_of_getElem? hx)
      obtain ⟨an, rfl⟩ : ∃ an : Nat, x = an := ⟨x.toNat, by omega⟩
      have HX := Lib.hid hx
      clear hx
      have hb3' : b3 < wr.heap.size := by omega
      go_wp2_with fail
      refine (for_own b mm 600 an 600 M _ (HI4.out.fr HL.out.1 (by simp; omega) (by simp; omega)) (by omega)).mono ?_
      rw [forL_all hM]
      rintro e w5 ⟨A5, c5, rfl, hr5, hf5, hlo5⟩
      have HR5 := Lib.hid hr5
      have HF5 := Lib.hid hf5
      have HLO5 := Lib.hid hlo5
      have hsz5 := hf5.size
      have hd5 := (HL.out.2.keep (fun g _ hg => hf5.block g hg (by simp)) (by omega)).more hsz5
      have HD5 := Lib.hid hd5
      have hnot : (an : Int) ∉ all.take j := by
        intro hin
        obtain ⟨i, hi⟩ := List.getElem?_of_mem hin
        have hij : i < j := by
          have := (List.getElem?_eq_some_iff.1 hi).1
          simp at this; omega
        rw [List.getElem?_take_of_lt hij] at hi
        have := (List.getElem?_inj (by have := (List.getElem?_eq_some_iff.1 hi).1; exact this) HND.out).1 (hi.trans HX.out.symm)
        omega
      obtain ⟨hfz, hnil, _⟩ := hd5 an (by omega)
      have hnil5 := hnil (by simp [hadF, hnot])
      have HC3 := Lib.hid ((hf5.cell (a := ⟨b3, off3 + j, none⟩) (by omega) (by simp)).trans hc3)
      have hgl : (ptsFor M an).length ≤ 600 := by
        have h1 := length_ptsFor M an
        have h2 := List.length_filter_le (fun x : Hnt => decide (x.n = an)) M
        omega
      have HNOT := Lib.hid hnot
      have hgs := goneOf_succ (M := M) (t := t) HX.out
      have HGS := Lib.hid hgs
      have hgone : goneOf M t (all.take j) ≤ 16 * 600 := by
        refine Nat.le_trans (goneOf_le M t _) (Nat.mul_le_mul ?_ (by omega))
        exact Nat.le_trans (List.length_take_le _ _) (by omega)
      generalize goneOf M t (all.take j) = G0 at *
      clear hr5 hf5 hlo5 hd5 hnot hc3 hgs hnil
      have hF : hadF M t all (j + 1) = fun n => if n = an then some ((ptsFor M an).filter (fun p => decide (t ≤ p.t))) else hadF M t all j n := by
        funext n
        unfold hadF
        by_cases e : n = an
        · subst e
          have : ((n : Nat) : Int) ∈ all.take (j + 1) := by rw [List.take_add_one, HX.out]; simp
          rw [if_pos this, if_pos rfl]
        · have : ((n : Nat) : Int) ∈ all.take (j + 1) ↔ ((n : Nat) : Int) ∈ all.take j := by
            rw [List.take_add_one, HX.out]; simp; omega
          rw [if_neg e]
          simp only [this]
      have HFE := Lib.hid hF
      clear hF
      generalize ptsFor M an = pts at *
      obtain ⟨wo, rfl⟩ : ∃ wo : World, wo = wr := ⟨_, rfl⟩
      go_wp2_with fail
      go_loopw [12, 15] (fun u i w6 => ∃ k : Nat, k ≤ pts.length ∧ i = .int .i64 k ∧ u = .int .i64 ((G0 : Int) + ((pts.take k).filter (fun p => !decide (t ≤ p.t))).length) ∧
        ∃ v, w6.cell? ⟨bh, an, none⟩ = some v ∧ w6.frozen? ⟨bh, an, none⟩ = false ∧ Hid (Fr [bh] w5 w6 ∧ w6.ownsRow w5.heap.size 31 6 v ((pts.take k).filter (fun p => decide (t ≤ p.t))).length (ptCells ((pts.take k).filter (fun p => decide (t ≤ p.t)))) ∧
          ∀ n, (n ≠ an → w6.cell? ⟨bh, n, none⟩ = w5.cell? ⟨bh, n, none⟩) ∧ w6.frozen? ⟨bh, n, none⟩ = w5.frozen? ⟨bh, n, none⟩)) (fun _ i _ => pts.length - (intOf i).toNat)
      case atStart => exact ⟨0, by omega, rfl, by simp, _, hnil5, hfz, Lib.hid ⟨Fr.refl _ _, by simpa [ptCells] using World.ownsRow_nil _ _ _ _, fun _ => ⟨fun _ => rfl, rfl⟩⟩⟩
      case round =>
        obtain ⟨k, hk, rfl, rfl, v, hcv, hfv, HK⟩ := hrel
        have hsz6 := HK.out.1.size
        by_cases hlt2 : k < pts.length
        · obtain ⟨b5, off5, p, rfl, hb5, hx5, g0, g1, g2, g3, g4, g5⟩ := (Rd.pt_at HR5.out hlt2)
          have hne5 : b5 ∉ [bh] := by
            have := HLO5.out b5 off5 rfl
            simp; omega
          have k0 := (HK.out.1.cell (a := ⟨b5, off5 + k * 6, none⟩) hb5 hne5).trans g0
          have k1 := (HK.out.1.cell (a := ⟨b5, off5 + k * 6 + 1, none⟩) hb5 hne5).trans g1
          have k2 := (HK.out.1.cell (a := ⟨b5, off5 + k * 6 + 2, none⟩) hb5 hne5).trans g2
          have k3 := (HK.out.1.cell (a := ⟨b5, off5 + k * 6 + 3, none⟩) hb5 hne5).trans g3
          have k4 := (HK.out.1.cell (a := ⟨b5, off5 + k * 6 + 4, none⟩) hb5 hne5).trans g4
          have k5 := (HK.out.1.cell (a := ⟨b5, off5 + k * 6 + 5, none⟩) hb5 hne5).trans g5
          have c3' := (HK.out.1.cell (a := ⟨b3, off3 + j, none⟩) (by show b3 < _; omega) (by simp; omega)).trans HC3.out
          have HX5 := Lib.hid hx5
          have hbv : bh < wr.heap.size := by omega
          have hb5v : b5 < wr.heap.size := by omega
          have hbh5 : bh < w5.heap.size := by omega
          have hb3v : b3 < wr.heap.size := by omega
          have hfl := List.length_filter_le (fun p : Pt => !decide (t ≤ p.t)) (pts.take k)
          have hfl2 := List.length_filter_le (fun p : Pt => decide (t ≤ p.t)) (pts.take k)
          have htl := List.length_take_le k pts
          clear hx5 g0 g1 g2 g3 g4 g5 hne5
          have htk : pts.take (k + 1) = pts.take k ++ [p] := by rw [List.take_add_one, HX5.out]; rfl
          have HTK := Lib.hid htk
          clear htk
          go_upto_block 5 with fail
          go_cut [12] from 59 to 90 (fun s wx => s = .int .i64 ((G0 : Int) + ((pts.take (k + 1)).filter (fun p => !decide (t ≤ p.t))).length) ∧
            ∃ v, wx.cell? ⟨bh, an, none⟩ = some v ∧ wx.frozen? ⟨bh, an, none⟩ = false ∧ Hid (Fr [bh] w5 wx ∧ wx.ownsRow w5.heap.size 31 6 v ((pts.take (k + 1)).filter (fun p => decide (t ≤ p.t))).length (ptCells ((pts.take (k + 1)).filter (fun p => decide (t ≤ p.t)))) ∧
              ∀ n, (n ≠ an → wx.cell? ⟨bh, n, none⟩ = w5.cell? ⟨bh, n, none⟩) ∧ wx.frozen? ⟨bh, n, none⟩ = w5.frozen? ⟨bh, n, none⟩))
          case first =>
            by_cases hpt : t ≤ p.t
            · obtain ⟨i0, hi0, hz0, hz1, hz2⟩ := info_parts info_pt
              obtain ⟨g, cap, w7, hrun, hown7, hg7, _, _⟩ := run_append_lies (P := Try.prog) ((wr.alloc (.cells #[.string p.s, .int .i64 p.t, .int .i64 p.v, .int .i64 p.c, .int .i64 p.i, .int .i64 p.q] 31)).drew) 22 22 w5.heap.size 31 i0 _ 6 56 Try.underlying22 hi0 hz0 hz1 hz2 rfl (by omega)
                v _ _ (own_drewN (HK.out.2.1.alloc _) 1) ⟨wr.heap.size, 0, none⟩ 1 1 p.cells rfl (by
                  intro j u hu
                  exact cell_off_new wr _ _ j u (by simpa [Pt.cells] using hu)) (by intro u hu; simp [Pt.cells] at hu; rcases hu with rfl | rfl | rfl | rfl | rfl | rfl <;> rfl) (by omega) (by unfold maxLen; omega) (by omega) (by simp; omega) _ rfl
              have hf7 : Fr v.ownBlock.toList wr w7 := (((Fr.refl _ _).alloc _).drew).trans (T := v.ownBlock.toList) (Fr.of_grown hg7 fun k hk _ => by simp [hk]) (fun k hk _ => hk)
              have hov : ∀ g ∈ v.ownBlock.toList, w5.heap.size ≤ g := fun g hg => (HK.out.2.1.lt g (by simpa using hg)).1
              have c7 := (hf7.cell (a := ⟨b3, off3 + j, none⟩) hb3v (fun hin => by have := hov b3 hin; omega)).trans c3'
              have d7 := (hf7.cell (a := ⟨bh, an, none⟩) hbv (fun hin => by have := hov bh hin; omega)).trans hcv
              have f7 : w7.frozen? ⟨bh, an, none⟩ = false := (World.frozen?_of_block (hf7.block bh hbv (fun hin => by have := hov bh hin; omega))).trans hfv
              have s7 := hf7.size
              have hb3w : b3 < w7.heap.size := by omega
              have hbhw : bh < w7.heap.size := by omega
              have HF7 := Lib.hid hf7
              have HOV := Lib.hid hov
              have HO7 := Lib.hid hown7
              clear hf7 hov hown7 hg7
              go_wp2_with fail
              go_region_law (refine step_append_run rfl (.tmp 81) (.tmp 86) 22 rfl _ _ _ _ (by simp [Act.eval]) (by simp [Act.eval]) hrun ?_)
              all_goals
                go_wp2_with fail
                go_meet
                case rel =>
                  have e1 : (pts.take (k + 1)).filter (fun p => !decide (t ≤ p.t)) = (pts.take k).filter (fun p => !decide (t ≤ p.t)) := by rw [HTK.out, List.filter_append, List.filter_cons_of_neg (by simp [hpt])]; simp
                  have e2 : (pts.take (k + 1)).filter (fun p => decide (t ≤ p.t)) = (pts.take k).filter (fun p => decide (t ≤ p.t)) ++ [p] := by rw [HTK.out, List.filter_append, List.filter_cons_of_pos (by simp [hpt])]; simp
                  rw [e1, e2]
                  exact ⟨rfl, drp_rel hbh5 d7 f7 HK.out.1 HK.out.2.1 HK.out.2.2 HF7.out HO7.out⟩
            · go_wp2_with fail
              go_meet
              case rel =>
                have hpt' : ¬ t ≤ p.t := by omega
                have e1 : (pts.take (k + 1)).filter (fun p => !decide (t ≤ p.t)) = (pts.take k).filter (fun p => !decide (t ≤ p.t)) ++ [p] := by rw [HTK.out, List.filter_append, List.filter_cons_of_pos (by simp [hpt'])]; simp
                have e2 : (pts.take (k + 1)).filter (fun p => decide (t ≤ p.t)) = (pts.take k).filter (fun p => decide (t ≤ p.t)) := by rw [HTK.out, List.filter_append, List.filter_cons_of_neg (by simp [hpt'])]; simp
                rw [e1, e2]
                refine ⟨?_, v, hcv, hfv, HK⟩
                simp; omega
          obtain ⟨rfl, v', hcv', hfv', HK'⟩ := hcut
          go_wp2_with fail
          go_roundw
          case rel => exact ⟨k + 1, by omega, by go_num, rfl, v', hcv', hfv', HK'⟩
          case measure => simp [intOf]; omega
        · obtain rfl : k = pts.length := by omega
          rw [List.take_length] at HK
          go_wp2_with fail
          go_roundw
          case rel =>
            refine ⟨j + 1, by omega, by go_num, ?_, Lib.hid ⟨?_, ?_⟩⟩
            · rw [HGS.out, List.take_length]; simp
            · exact (HL.out.1.trans' (HF5.out.mono (by simp))).trans' HK.out.1
            · rw [HFE.out]
              exact had_step HD5.out (by omega) hcv HK.out.1 HK.out.2.1 HK.out.2.2
          case measure => simp [intOf]; omega
    · obtain rfl : j = all.length := by omega
      rw [List.take_length]
      have hga := goneOf_all M t all HND.out (by intro x hx; exact HMI.out x hx)
      have hdl := dropL_le M t
      have hq0 : ((M.length : Int) - (dropL M t).length != (goneOf M t all : Int)) = false := by simp; omega
      have hq1 : ((dropL M t).length : Int) - (dropL M t).length = 0 := by omega
      have HF6 := Lib.hid (HF4.out.own HL.out.1 (by simp; omega))
      have hI6 := HI4.out.fr HL.out.1 (by simp; omega) (by simp; omega)
      go_wp2_with fail
      refine (drop_any b mm 600 t M _ hI6 (by omega)).mono ?_
      rintro e w7 ⟨rfl, hi7, hf7⟩
      have HI7 := Lib.hid hi7
      have HF7 := Lib.hid (HF6.out.own hf7 (by simpa using hm0))
      have hr7 := (HR4.out.fr HL.out.1 (by omega) (by simp)).fr_map (by omega) hf7 (hI6.some_ mm rfl) (by omega)
      have hd7 := HL.out.2.keep (fun g hg1 hg2 => hf7.block g hg2 (by simp; omega)) (by omega)
      have hz7 := hf7.size
      go_wp2_with fail
      refine (drop_any b mm 600 t (dropL M t) _ HI7.out (by omega)).mono ?_
      rw [dropL_twice]
      rintro e w8 ⟨rfl, hi8, hf8⟩
      rw [hq1]
      have HI8 := Lib.hid hi8
      have HF8 := Lib.hid (HF7.out.own hf8 (by simpa using hm0))
      have HR8 := Lib.hid (hr7.fr_map (by omega) hf8 (HI7.out.some_ mm rfl) (by omega))
      have HD8 := Lib.hid (hd7.keep (fun g hg1 hg2 => hf8.block g (by omega) (by simp; omega)) (by omega))
      have hz8 := hf8.size
      clear hf7 hf8 hr7 hd7 hi8 hi7 hI6
      obtain ⟨w6, rfl⟩ : ∃ w6 : World, w6 = wr := ⟨_, rfl⟩
      go_wp2_with fail
      go_loopw [16] (fun i wr => ∃ j : Nat, j ≤ all.length ∧ i = .int .i64 j ∧ Hid (Fr [] w8 wr)) (fun i _ => all.length - (intOf i).toNat)
      case atStart => exact ⟨0, by omega, rfl, Lib.hid (Fr.refl _ _)⟩
      case round =>
        obtain ⟨j, hj, rfl, HE⟩ := hrel
        by_cases hlt3 : j < all.length
        · obtain ⟨b3, off3, x, rfl, hb3, hx, hc3⟩ := HR8.out.int_at hlt3
          have hxr := HIN.out x (List.mem_of_getElem? hx)
          obtain ⟨an, rfl⟩ : ∃ an : Nat, x = an := ⟨x.toNat, by omega⟩
          have hin : (an : Int) ∈ all := List.mem_of_getElem? hx
          obtain ⟨_, _, hrow⟩ := HD8.out an (by omega)
          obtain ⟨v, hv, A9, c9, rfl, hr9, _⟩ := hrow _ (by unfold hadF; rw [List.take_length, if_pos hin])
          have HR9 := Lib.hid hr9
          have hb38 : b3 < w8.heap.size := by omega
          have hbh8 : bh < w8.heap.size := by omega
          have g0 := (HE.out.cell (a := ⟨b3, off3 + j, none⟩) hb38 (by simp)).trans hc3
          have g1 := (HE.out.cell (a := ⟨bh, an, none⟩) hbh8 (by simp)).trans hv
          have hEr : HF w8 wr := HF.mk HE.out
          have hb3r : b3 < wr.heap.size := Nat.lt_of_lt_of_le hb38 HE.out.size
          have hbhr : bh < wr.heap.size := Nat.lt_of_lt_of_le hbh8 HE.out.size
          have hsame : decide (forL (dropL M t) an 600 = (ptsFor M an).filter (fun p => decide (t ≤ p.t))) = true := by
            rw [forL_all (by omega), ptsFor_drop]; simp
          have hfl9 : (forL (dropL M t) an 600).length ≤ 600 := by unfold forL; exact Nat.le_trans (List.length_take_le _ _) (by omega)
          have HSM := Lib.hid hsame
          clear hx hin hrow hv hr9 hc3 hsame
          go_wp2_with fail
          go_region_held3 (fun w' => w'.cell? ⟨b3, off3 + j, none⟩ = some (.int .i64 an) ∧ w'.cell? ⟨bh, an, none⟩ = some (.slice A9 ((ptsFor M an).filter (fun p => decide (t ≤ p.t))).length c9) ∧ HF w8 w')
            (first
              | exact ⟨g0, g1, HF.mk (hEr.gr.drew)⟩
              | (go_split_ands
                 refine ⟨?_, ?_, ?_⟩
                 all_goals first
                   | (rw [HF.cell (by assumption) hg9 (by assumption)]; assumption)
                   | exact HF.trans (by assumption) hg9))
            (first
              | (go_at_call 15; go_split_ands; refine (for_own b mm 600 an 600 (dropL M t) _ (HI8.out.fr (HF.gr (by assumption)) (by simp) (by simp)) (by omega)).mono ?_; rintro e w9 ⟨A8, c8, rfl, hr8, hg9, _⟩)
              | (go_at_call 22; go_split_ands; refine (samepts_any (forL (dropL M t) an 600) ((ptsFor M an).filter (fun p => decide (t ≤ p.t))) _ _ A8 A9 c8 c9 _ w6.heap.size _ hr8 (HR9.out.keep (fun b hb => (HF.gr (by assumption)).block b (by omega) (by simp))) (by omega)).mono ?_; rw [HSM.out]; rintro e w10 ⟨rfl, hgg⟩; have hg9 := hgg.fr []))
          go_wp2
          go_split_ands
          go_roundw
          case rel => exact ⟨j + 1, by omega, by go_num, Lib.hid (HF.gr (by assumption))⟩
          case measure => simp [intOf]; omega
        · go_wp2_with fail
          go_ret
          exact PBoolF.mk rfl (HF8.out.trans' HE.out)
end Go.Proofs.Ytmlelggakadpdaa
