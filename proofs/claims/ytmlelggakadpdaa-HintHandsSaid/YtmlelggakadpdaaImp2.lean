/-
  The program's hints: Add.
-/
import Derived.Test.YtmlelggakadpdaaImp1
import Derived.Test.YtmlelggakadpdaaCmp
import Derived.Test.YtmlelggakadpdaaLibI
namespace Go.Proofs.Ytmlelggakadpdaa
open Go.RowKit

def hntCells (l : List Hnt) : List Value := l.flatMap Hnt.cells
theorem length_hntCells : ∀ l : List Hnt, (hntCells l).length = l.length * 7
  | [] => rfl
  | p :: r => by
    have := length_hntCells r
    simp only [hntCells, List.flatMap_cons, List.length_append, List.length_cons] at this ⊢
    rw [this]
    simp [Hnt.cells]; omega
theorem hntCells_append (l m : List Hnt) : hntCells (l ++ m) = hntCells l ++ hntCells m := by simp [hntCells]
theorem hntCells_drop : ∀ (l : List Hnt) (n : Nat), (hntCells l).drop (n * 7) = hntCells (l.drop n)
  | [], n => by simp [hntCells]
  | p :: r, 0 => by simp [hntCells]
  | p :: r, n + 1 => by
    have ih := hntCells_drop r n
    simp only [hntCells, List.flatMap_cons, List.drop_succ_cons] at ih ⊢
    rw [show (n + 1) * 7 = p.cells.length + n * 7 by simp [Hnt.cells]; omega, List.drop_length_add_append, ih]
theorem hntCells_at {l : List Hnt} {k : Nat} {p : Hnt} (h : l[k]? = some p) (j : Nat) (hj : j < 7) : (hntCells l)[k * 7 + j]? = p.cells[j]? := by
  have e : (hntCells l)[k * 7 + j]? = ((hntCells l).drop (k * 7))[j]? := by rw [List.getElem?_drop]
  rw [e, hntCells_drop]
  obtain ⟨hk, rfl⟩ := List.getElem?_eq_some_iff.1 h
  rw [List.drop_eq_getElem_cons hk]
  simp only [hntCells, List.flatMap_cons]
  rw [List.getElem?_append_left (by simpa [Hnt.cells] using hj)]
theorem Rd.hnt_len {w : World} {B n : Nat} {A : Option Addr} {l : List Hnt} (h : Rd w B 7 A n (hntCells l)) : l.length = n := by
  have := h.len
  rw [length_hntCells] at this
  omega
theorem Rd.hnt_at {w : World} {B n : Nat} {A : Option Addr} {l : List Hnt} (h : Rd w B 7 A n (hntCells l)) {k : Nat} (hk : k < n) :
    ∃ b off x, A = some ⟨b, off, none⟩ ∧ b < B ∧ l[k]? = some x ∧ w.cell? ⟨b, off + k * 7, none⟩ = some (.string x.p.s) ∧ w.cell? ⟨b, off + k * 7 + 1, none⟩ = some (.int .i64 x.p.t) ∧
      w.cell? ⟨b, off + k * 7 + 2, none⟩ = some (.int .i64 x.p.v) ∧ w.cell? ⟨b, off + k * 7 + 3, none⟩ = some (.int .i64 x.p.c) ∧ w.cell? ⟨b, off + k * 7 + 4, none⟩ = some (.int .i64 x.p.i) ∧
      w.cell? ⟨b, off + k * 7 + 5, none⟩ = some (.int .i64 x.p.q) ∧ w.cell? ⟨b, off + k * 7 + 6, none⟩ = some (.int .i64 x.n) := by
  obtain ⟨b, off, e, hb, hc⟩ := h.cells (by omega)
  have hl : k < l.length := by rw [h.hnt_len]; exact hk
  have hp : l[k]? = some l[k] := List.getElem?_eq_getElem hl
  have g : ∀ j (hj : j < 7), w.cell? ⟨b, off + k * 7 + j, none⟩ = l[k].cells[j]? := fun j hj => by
    have hlen : j < l[k].cells.length := by simpa [Hnt.cells] using hj
    rw [Nat.add_assoc, List.getElem?_eq_getElem hlen]
    exact hc _ _ (by rw [hntCells_at hp j hj, List.getElem?_eq_getElem hlen])
  exact ⟨b, off, l[k], e, hb, hp, g 0 (by omega), g 1 (by omega), g 2 (by omega), g 3 (by omega), g 4 (by omega), g 5 (by omega), g 6 (by omega)⟩

theorem info_hnt : (Try.prog.info? 66).map (fun i => (i.zero, i.size, i.bytes)) = some (some (.agg #[.string ByteArray.empty, .int .i64 0, .int .i64 0, .int .i64 0, .int .i64 0, .int .i64 0, .int .i64 0]), 7, 64) := by kernel_rfl

theorem IsHints.run_lookup {w : World} {b : Nat} {m : Option Nat} {most : Int} {M : List Hnt} (h : IsHints w b m most M) (x : Hnt) : (Instr.lookup 60 (.map m) x.val false).run Try.prog w = .ok (.bool (decide (x ∈ M))) w := by
  cases m with
  | none =>
    rw [h.none_ rfl]
    have hc := hnt_check x true w
    have hf := (hntLaw.find x [] w (by simp)).resolve_right (by simp)
    simp [Instr.lookup, run_underlying under_map, Result.andThen, hc, hf.1, zero_bool]
  | some k => exact (h.some_ k rfl).run_lookup x

/-- What Add has to lay: the hints of p for the nodes below k that are named and are not there. -/
def moreOf (M : List Hnt) (p : Pt) (nodes : List Int) (k : Nat) : List Hnt := ((List.range k).filter (fun n : Nat => decide ((n : Int) ∈ nodes) && !decide ((⟨p, n⟩ : Hnt) ∈ M))).map (fun n : Nat => ⟨p, (n : Int)⟩)
theorem moreOf_succ (M : List Hnt) (p : Pt) (nodes : List Int) (k : Nat) : moreOf M p nodes (k + 1) = moreOf M p nodes k ++ (if decide ((k : Int) ∈ nodes) && !decide ((⟨p, k⟩ : Hnt) ∈ M) then [⟨p, k⟩] else []) := by
  unfold moreOf
  rw [List.range_succ, List.filter_append, List.map_append]
  congr 1
  simp only [List.filter_cons, List.filter_nil]
  split <;> rfl
theorem length_moreOf_le (M : List Hnt) (p : Pt) (nodes : List Int) (k : Nat) : (moreOf M p nodes k).length ≤ k := by
  unfold moreOf
  have := List.length_filter_le (fun n : Nat => decide ((n : Int) ∈ nodes) && !decide ((⟨p, n⟩ : Hnt) ∈ M)) (List.range k)
  simpa using this
theorem moreOf_nodup (M : List Hnt) (p : Pt) (nodes : List Int) (k : Nat) : (moreOf M p nodes k).Nodup := by
  unfold moreOf
  refine List.Pairwise.map _ ?_ (List.Pairwise.filter _ List.nodup_range)
  intro a b hab e
  apply hab
  have : (a : Int) = (b : Int) := congrArg Hnt.n e
  omega
theorem moreOf_new {M : List Hnt} {p : Pt} {nodes : List Int} {k : Nat} {x : Hnt} (h : x ∈ moreOf M p nodes k) : x ∉ M := by
  unfold moreOf at h
  obtain ⟨n, hn, rfl⟩ := List.mem_map.1 h
  have := (List.mem_filter.1 hn).2
  simp at this
  exact this.2

/-- Whether Add takes p for the nodes, and what is held then. -/
def addR (M : List Hnt) (most : Int) (p : Pt) (nodes : List Int) : Bool × List Hnt :=
  if ptB p.s p.t p.c p.i p.q && decide ((M.length : Int) + (moreOf M p nodes 16).length ≤ most) then (true, M ++ moreOf M p nodes 16) else (false, M)
def PAdd (b : Nat) (m : Option Nat) (most : Int) (r : Bool × List Hnt) (w : World) (e : Ending) (w' : World) : Prop :=
  e = .returned (.bool r.1) ∧ IsHints w' b m most r.2 ∧ Fr m.toList w w'

set_option maxHeartbeats 400000 in
theorem add_none (p : Pt) (A : Option Addr) (n c : Nat) (w : World) :
    Calls Try.prog 12 #[.pointer none, .agg #[.string p.s, .int .i64 p.t, .int .i64 p.v, .int .i64 p.c, .int .i64 p.i, .int .i64 p.q], .slice A n c] w (PBool false w) := by
  go_enter Try.func12, Try.ntmps12
  go_wp2_with fail
  go_ret
  exact PBool.mk rfl ((Grew.refl _).alloc _)

set_option maxRecDepth 100000 in
set_option maxHeartbeats 3200000 in
theorem add_any (b : Nat) (m : Option Nat) (most : Int) (M : List Hnt) (p : Pt) (nodes : List Int) (n c B : Nat) (A : Option Addr) (w : World) (h : IsHints w b m most M) (hs : p.s.size ≤ maxLen) (hr : Rd w B 1 A n (intCells nodes)) (hB : B ≤ w.heap.size)
    (hn : n ≤ 100000) (hM : M.length ≤ 100000) (h0 : 0 ≤ most) (h1 : most ≤ 600) (hnil : m = none → most = 0) :
    Calls Try.prog 12 #[.pointer (some ⟨b, 0, none⟩), .agg #[.string p.s, .int .i64 p.t, .int .i64 p.v, .int .i64 p.c, .int .i64 p.i, .int .i64 p.q], .slice A n c] w (PAdd b m most (addR M most p nodes) w) := by
  have H := Lib.hid h
  have HR := Lib.hid hr
  have HNIL := Lib.hid hnil
  clear h hr hnil
  go_enter Try.func12, Try.ntmps12
  go_wp2_with fail
  refine (checkp_any _ _ _ _ _ _ _ hs).mono ?_
  rintro e w1 ⟨rfl, hg⟩
  cases hok : ptB p.s p.t p.c p.i p.q
  · have HOK := Lib.hid hok
    clear hok
    simp only [errOf]
    go_wp2_with fail
    go_ret
    have hG : Grew w w1 := ((Grew.refl _).alloc _).trans hg
    have hr : addR M most p nodes = (false, M) := by rw [addR, HOK.out]; rfl
    rw [hr]
    exact ⟨rfl, H.out.grew hG, hG.fr _⟩
  · have HOK := Lib.hid hok
    clear hok
    simp only [errOf]
    have hG : Grew w w1 := ((Grew.refl _).alloc _).trans hg
    have hz := hg.size
    simp at hz
    have g0 : w1.cell? ⟨w.heap.size, 0, none⟩ = some (.string p.s) := by rw [hg.cell (a := ⟨w.heap.size, 0, none⟩) (by simp)]; simp [go_sem]
    have g1 : w1.cell? ⟨w.heap.size, 1, none⟩ = some (.int .i64 p.t) := by rw [hg.cell (a := ⟨w.heap.size, 1, none⟩) (by simp)]; simp [go_sem]
    have g2 : w1.cell? ⟨w.heap.size, 2, none⟩ = some (.int .i64 p.v) := by rw [hg.cell (a := ⟨w.heap.size, 2, none⟩) (by simp)]; simp [go_sem]
    have g3 : w1.cell? ⟨w.heap.size, 3, none⟩ = some (.int .i64 p.c) := by rw [hg.cell (a := ⟨w.heap.size, 3, none⟩) (by simp)]; simp [go_sem]
    have g4 : w1.cell? ⟨w.heap.size, 4, none⟩ = some (.int .i64 p.i) := by rw [hg.cell (a := ⟨w.heap.size, 4, none⟩) (by simp)]; simp [go_sem]
    have g5 : w1.cell? ⟨w.heap.size, 5, none⟩ = some (.int .i64 p.q) := by rw [hg.cell (a := ⟨w.heap.size, 5, none⟩) (by simp)]; simp [go_sem]
    have H1 := Lib.hid (H.out.grew hG)
    have HR1 := Lib.hid (HR.out.grew hG hB)
    have hB1 : B ≤ w1.heap.size := by omega
    have HG := Lib.hid hG
    have hbb : w.heap.size < w1.heap.size := by omega
    clear hg hG H HR
    go_wp2_with fail
    go_loopw [7, 19] (fun u i wr => ∃ k : Nat, k ≤ 16 ∧ i = .int .i64 k ∧ Hid (Fr [] w1 wr) ∧ wr.ownsRow w1.heap.size 66 7 u (moreOf M p nodes k).length (hntCells (moreOf M p nodes k))) (fun _ i _ => 16 - (intOf i).toNat)
    case atStart => exact ⟨0, by omega, rfl, Lib.hid (Fr.refl _ _), World.ownsRow_nil _ _ _ _⟩
    case round =>
      obtain ⟨k, hk, rfl, HF, hown⟩ := hrel
      have HOWN := Lib.hid hown
      clear hown
      have hsz := HF.out.size
      have hml := length_moreOf_le M p nodes k
      by_cases hlt : k < 16
      · have hc0 := (HF.out.cell (a := ⟨w.heap.size, 0, none⟩) hbb (by simp)).trans g0
        have hc1 := (HF.out.cell (a := ⟨w.heap.size, 1, none⟩) hbb (by simp)).trans g1
        have hc2 := (HF.out.cell (a := ⟨w.heap.size, 2, none⟩) hbb (by simp)).trans g2
        have hc3 := (HF.out.cell (a := ⟨w.heap.size, 3, none⟩) hbb (by simp)).trans g3
        have hc4 := (HF.out.cell (a := ⟨w.heap.size, 4, none⟩) hbb (by simp)).trans g4
        have hc5 := (HF.out.cell (a := ⟨w.heap.size, 5, none⟩) hbb (by simp)).trans g5
        have hIr := H1.out.fr HF.out (by simp) (by simp)
        have hbl := hIr.lt
        have hb1 := hIr.ref
        have hlk : ∀ q : Nat, (Instr.lookup 60 (.map m) (.agg #[.string p.s, .int .i64 p.t, .int .i64 p.v, .int .i64 p.c, .int .i64 p.i, .int .i64 p.q, .int .i64 k]) false).run Try.prog
            ((wr.alloc (.cells #[.string p.s, .int .i64 p.t, .int .i64 p.v, .int .i64 p.c, .int .i64 p.i, .int .i64 p.q, .int .i64 k] 66)).drewN q)
            = .ok (.bool (decide ((⟨p, k⟩ : Hnt) ∈ M))) _ := fun q => (hIr.grew (((Grew.refl _).alloc _).drewN q)).run_lookup ⟨p, k⟩
        have hct : ∀ q : Nat, Calls Try.prog 31 #[.slice A n c, .int .i64 k] ((wr.alloc (.cells #[.string p.s, .int .i64 p.t, .int .i64 p.v, .int .i64 p.c, .int .i64 p.i, .int .i64 p.q, .int .i64 k] 66)).drewN q)
            fun e w' => e = .returned (.bool (decide ((k : Int) ∈ nodes))) ∧ w' = _ := fun q =>
          (contains_any nodes k n c B A _ ((((HR1.out.fr HF.out hB1 (by simp))).alloc (by omega) _).drewN q) (by omega)).mono fun _ _ ⟨he, hw⟩ => ⟨he, hw.symm⟩
        have HIR := Lib.hid hIr
        clear hIr
        cases hd1 : decide ((k : Int) ∈ nodes) <;> cases hd2 : decide ((⟨p, k⟩ : Hnt) ∈ M)
        all_goals
          rw [hd1] at hct
          rw [hd2] at hlk
          have HD1 := Lib.hid hd1
          have HD2 := Lib.hid hd2
          clear hd1 hd2
          have HCT := Lib.hid hct
          clear hct
          have hMs := moreOf_succ M p nodes k
          rw [HD1.out, HD2.out] at hMs
          have HMS := Lib.hid hMs
          clear hMs
          go_wp2_with fail
          go_quiet (first | (go_at_call 31; exact Calls.quiet_of_same (HCT.out _)))
          go_wp2_with (at_builtin; refine wpList_append_one rfl _ _ 64 rfl w1.heap.size 66 _ 7 64 Try.underlying64 info_hnt rfl (by omega) _ _ _ rfl ((own_drewN (HOWN.out.alloc _) nq).alloc _) (wr.heap.size + 1) #[.string p.s, .int .i64 p.t, .int .i64 p.v, .int .i64 p.c, .int .i64 p.i, .int .i64 p.q, .int .i64 k] 66 (by rfl) (heap_alloc_at (by simp)) rfl (by simp [Value.oneCell']) (by unfold maxLen; omega) (by omega) (by simp; omega) ?_; intro v2 w2 hown2 hg2)
        · go_roundw
          case rel => exact ⟨k + 1, by omega, by go_num, Lib.hid ((HF.out.alloc _).drewN _), by rw [HMS.out]; simpa using own_drewN (HOWN.out.alloc _) nq⟩
          case measure => simp [intOf]; omega
        · go_roundw
          case rel => exact ⟨k + 1, by omega, by go_num, Lib.hid ((HF.out.alloc _).drewN _), by rw [HMS.out]; simpa using own_drewN (HOWN.out.alloc _) nq⟩
          case measure => simp [intOf]; omega
        · go_roundw
          case rel =>
            refine ⟨k + 1, by omega, by go_num, Lib.hid ((((HF.out.alloc _).drewN _).alloc _).appended ((own_drewN (HOWN.out.alloc _) nq).alloc _) (Nat.le_refl _) hg2), ?_⟩
            rw [HMS.out]
            simpa [hntCells_append, hntCells, Hnt.cells] using hown2
          case measure => simp [intOf]; omega
        · go_roundw
          case rel => exact ⟨k + 1, by omega, by go_num, Lib.hid ((HF.out.alloc _).drewN _), by rw [HMS.out]; simpa using own_drewN (HOWN.out.alloc _) nq⟩
          case measure => simp [intOf]; omega
      · obtain rfl : k = 16 := by omega
        obtain ⟨A', c', hu, hc'⟩ := own_slice HOWN.out
        subst hu
        have hIr := H1.out.fr HF.out (by simp) (by simp)
        have hbl := hIr.lt
        have hb0 := hIr.room
        have hb1 := hIr.ref
        have hln : ∀ (q : Nat) (ty : TypeId), (Builtin.len_ #[60] ty #[.map m]).run Try.prog (wr.drewN q) = .ok (.int .i64 M.length) (wr.drewN q) := fun q ty =>
          run_len_hints (hIr.grew ((Grew.refl _).drewN q)) ty
        have HIR := Lib.hid hIr
        clear hIr
        go_wp2_with fail
        go_quiet (fail)
        have hf0 : Fr m.toList w wr := (HG.out.fr _).trans (HF.out.mono (T := m.toList) (by simp)) (fun _ h _ => h)
        have HF0 := Lib.hid hf0
        clear hf0
        by_cases hfit : most < (M.length : Int) + (moreOf M p nodes 16).length
        · go_wp2_with fail
          go_ret
          have hr : addR M most p nodes = (false, M) := by
            rw [addR, if_neg]
            simp; omega
          rw [hr]
          exact ⟨rfl, HIR.out.grew ((Grew.refl _).drewN _), HF0.out.drewN _⟩
        · have hr : addR M most p nodes = (true, M ++ moreOf M p nodes 16) := by
            rw [addR, if_pos]
            rw [HOK.out]; simp; omega
          have HRS := Lib.hid hr
          have hmne : ∀ x, x ∈ moreOf M p nodes 16 → x ∉ M := fun x hx => moreOf_new hx
          have HNE := Lib.hid hmne
          have hnd := moreOf_nodup M p nodes 16
          have HND := Lib.hid hnd
          clear hr hmne hnd
          generalize moreOf M p nodes 16 = more at HOWN hml hfit HRS HNE HND ⊢
          have hsz2 : w1.heap.size ≤ wr.heap.size := hsz
          obtain ⟨wo, rfl⟩ : ∃ wo : World, wo = wr := ⟨_, rfl⟩
          go_wp2_with fail
          go_loopw [57] (fun i w2 => ∃ j : Nat, j ≤ more.length ∧ i = .int .i64 j ∧ Hid (IsHints w2 b m most (M ++ more.take j) ∧ Fr m.toList w w2 ∧ w2.ownsRow w1.heap.size 66 7 (.slice A' more.length c') more.length (hntCells more))) (fun i _ => more.length - (intOf i).toNat)
          case atStart => exact ⟨0, by omega, rfl, Lib.hid ⟨by simpa using HIR.out.grew ((Grew.refl _).drewN _), HF0.out.drewN _, own_drewN HOWN.out _⟩⟩
          case round =>
            obtain ⟨j, hj, rfl, HI⟩ := hrel
            by_cases hlt2 : j < more.length
            · have hmn : m ≠ none := fun e => by
                have := HNIL.out e
                omega
              obtain ⟨mm, hmm⟩ : ∃ mm, m = some mm := by
                cases m with
                | none => exact absurd rfl hmn
                | some mm => exact ⟨mm, rfl⟩
              subst hmm
              obtain ⟨bb, off, x, hA', hb, hx, x0, x1, x2, x3, x4, x5, x6⟩ := (Rd.of_own HI.out.2.2).hnt_at hlt2
              subst hA'
              have HX := Lib.hid hx
              clear hx hmn
              have k0 := HI.out.1.room
              have k1 := HI.out.1.ref
              have hbl2 := HI.out.1.lt
              have hmap := (((HI.out.1.some_ mm rfl).alloc (.cells #[.string x.p.s, .int .i64 x.p.t, .int .i64 x.p.v, .int .i64 x.p.c, .int .i64 x.p.i, .int .i64 x.p.q, .int .i64 x.n] 66)).drew)
              obtain ⟨w3, hrun, hm3, hf3, hs3⟩ := HMap.run_update hmap x
              have HM3 := Lib.hid hm3
              have HF3 := Lib.hid hf3
              have HS3 := Lib.hid hs3
              clear hm3 hf3 hs3 hmap
              simp only [Hnt.val] at hrun
              go_wp2_with fail
              go_region
              go_wp2_with fail
              go_roundw
              case rel =>
                have hg : Grew wr ((wr.alloc (.cells #[.string x.p.s, .int .i64 x.p.t, .int .i64 x.p.v, .int .i64 x.p.c, .int .i64 x.p.i, .int .i64 x.p.q, .int .i64 x.n] 66)).drew) := ((Grew.refl _).alloc _).drew
                refine ⟨j + 1, by omega, by go_num, Lib.hid ⟨?_, ?_, ?_⟩⟩
                · have hnot : x ∉ M ++ more.take j := by
                    intro hin
                    rcases List.mem_append.1 hin with h1 | h1
                    · exact HNE.out x (List.mem_of_getElem? HX.out) h1
                    · obtain ⟨i, hi⟩ := List.getElem?_of_mem h1
                      have hij : i < j := by
                        have := (List.getElem?_eq_some_iff.1 hi).1
                        simp at this; omega
                      rw [List.getElem?_take_of_lt hij] at hi
                      have := (List.getElem?_inj (by have := (List.getElem?_eq_some_iff.1 hi).1; exact this) HND.out).1 (hi.trans HX.out.symm)
                      omega
                  have hm3 := HM3.out
                  rw [if_neg hnot] at hm3
                  have e : M ++ more.take (j + 1) = (M ++ more.take j) ++ [x] := by rw [List.take_add_one, HX.out]; simp
                  rw [e]
                  exact (HI.out.1.grew hg).turned HF3.out hm3
                · exact (HI.out.2.1.trans' (hg.fr _)).trans' HF3.out
                · have ho := own_drewN (HI.out.2.2.alloc (.cells #[.string x.p.s, .int .i64 x.p.t, .int .i64 x.p.v, .int .i64 x.p.c, .int .i64 x.p.i, .int .i64 x.p.q, .int .i64 x.n] 66)) 1
                  refine own_fr ho HF3.out fun g hg' hin => ?_
                  have hne := own_ne_map HI.out.2.2 (HI.out.1.some_ mm rfl)
                  simp at hin
                  subst hin
                  exact hne hg'
              case measure => simp [intOf]; omega
            · go_wp2_with fail
              go_ret
              have : j = more.length := by omega
              subst this
              rw [HRS.out]
              rw [List.take_length] at HI
              exact ⟨rfl, HI.out.1, HI.out.2.1⟩
end Go.Proofs.Ytmlelggakadpdaa
