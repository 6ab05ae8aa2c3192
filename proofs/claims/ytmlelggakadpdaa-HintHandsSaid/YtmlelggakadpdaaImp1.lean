/-
  The program's hints: New, Len, Room, Ack: what each call does.
-/
import Derived.Test.YtmlelggakadpdaaHnt
namespace Go.Proofs.Ytmlelggakadpdaa
open Go.RowKit

/-- What New answers: new hints that hold nothing. -/
def PNew (most : Int) (w : World) (e : Ending) (w' : World) : Prop :=
  ∃ b m, e = .returned (.pointer (some ⟨b, 0, none⟩)) ∧ IsHints w' b (some m) most [] ∧ w.heap.size ≤ b ∧ w.heap.size ≤ m ∧ Grew w w'
def clampI (lo hi n : Int) : Int := min (max n lo) hi
theorem PNew.mk {n most : Int} {w : World} (h : n = most) : PNew most w (.returned (.pointer (some ⟨w.heap.size + 1, 0, none⟩))) ((w.alloc (.map #[] 0)).alloc (.cells #[.int .i64 n, .map (some w.heap.size)] 62)) := by
  subst h
  refine ⟨w.heap.size + 1, w.heap.size, rfl, ⟨?_, ?_, (fun h => by cases h), (fun k hk => ?_), (fun k hk => ?_)⟩, by omega, by omega, ((Grew.refl _).alloc _).alloc _⟩
  · simp [go_sem]
  · simp [go_sem]
  · cases hk
    exact (MapIs.made w).alloc _
  · cases hk; omega

set_option maxHeartbeats 400000 in
theorem new_any (n : Int) (w : World) : Calls Try.prog 9 #[.int .i64 n] w (PNew (clampI 0 600 n) w) := by
  have hmm := @run_makeMap Try.prog
  go_enter Try.func9, Try.ntmps9
  go_wp2
  all_goals
    go_ret
    refine PNew.mk ?_
    simp [clampI]; omega

set_option maxHeartbeats 400000 in
theorem len_nil (w : World) : Calls Try.prog 14 #[.pointer none] w fun e w' => e = .returned (.int .i64 0) ∧ w = w' := by
  go_enter Try.func14, Try.ntmps14
  go_wp2
  go_ret
  exact ⟨rfl, rfl⟩
set_option maxHeartbeats 400000 in
theorem room_nil (w : World) : Calls Try.prog 19 #[.pointer none] w fun e w' => e = .returned (.int .i64 0) ∧ w = w' := by
  go_enter Try.func19, Try.ntmps19
  go_wp2
  go_ret
  exact ⟨rfl, rfl⟩

theorem under_map : Try.prog.underlying 60 = some (.map 66 4) := by kernel_rfl
theorem run_len_hints {w : World} {b : Nat} {m : Option Nat} {most : Int} {M : List Hnt} (h : IsHints w b m most M) (ty : TypeId) :
    (Builtin.len_ #[60] ty #[.map m]).run Try.prog w = .ok (.int .i64 M.length) w := by
  cases m with
  | none =>
    rw [h.none_ rfl, run_len_nilMap w _ _ (by kernel_rfl)]; rfl
  | some k =>
    have := (h.some_ k rfl).run_len (P := Try.prog) (t := 60) (ty := ty) (by kernel_rfl)
    rw [this]; simp

set_option maxHeartbeats 400000 in
theorem len_any (b : Nat) (m : Option Nat) (most : Int) (M : List Hnt) (w : World) (h : IsHints w b m most M) :
    Calls Try.prog 14 #[.pointer (some ⟨b, 0, none⟩)] w fun e w' => e = .returned (.int .i64 M.length) ∧ Grew w w' := by
  have h1 := h.ref
  have hl := fun ty => run_len_hints h ty
  go_enter Try.func14, Try.ntmps14
  go_wp2
  go_ret
  exact ⟨rfl, by repeat (first | exact Grew.refl _ | apply Grew.drewN)⟩

set_option maxHeartbeats 400000 in
theorem room_any (b : Nat) (m : Option Nat) (most : Int) (M : List Hnt) (w : World) (h : IsHints w b m most M) (h0 : 0 ≤ most) (h1 : most ≤ 600) (hM : M.length ≤ 100000) :
    Calls Try.prog 19 #[.pointer (some ⟨b, 0, none⟩)] w fun e w' => e = .returned (.int .i64 (most - M.length)) ∧ Grew w w' := by
  have g0 := h.room
  have g1 := h.ref
  have hl : ∀ (q : Nat) (ty : TypeId), (Builtin.len_ #[60] ty #[.map m]).run Try.prog (w.drewN q) = .ok (.int .i64 M.length) (w.drewN q) := fun q ty =>
    run_len_hints (h.grew ((Grew.refl _).drewN q)) ty
  go_enter Try.func19, Try.ntmps19
  go_wp2
  go_quiet (fail)
  go_wp2
  go_ret
  exact ⟨rfl, by repeat (first | exact Grew.refl _ | apply Grew.drewN)⟩

theorem look_unit (M : List Hnt) (x : Hnt) : look (M.map (fun h => (h, ()))) x = if x ∈ M then some () else none := by
  by_cases h : x ∈ M
  · rw [if_pos h]
    have : look (M.map (fun h => (h, ()))) x ≠ none := fun e => look_none_iff.1 e (x, ()) (List.mem_map.2 ⟨x, h, rfl⟩) rfl
    cases hl : look (M.map (fun h => (h, ()))) x with
    | none => exact absurd hl this
    | some u => rfl
  · rw [if_neg h, look_none_iff]
    intro p hp
    obtain ⟨y, hy, rfl⟩ := List.mem_map.1 hp
    exact fun e => h (e ▸ hy)
theorem zero_bool (w : World) : (zeroValue 4).run Try.prog w = .ok (.bool false) w := by kernel_rfl
theorem HMap.run_lookup {w : World} {k : Nat} {M : List Hnt} (h : HMap w k M) (x : Hnt) : (Instr.lookup 60 (.map (some k)) x.val false).run Try.prog w = .ok (.bool (decide (x ∈ M))) w := by
  have := MapIs.run_lookup h hntLaw under_map (zero_bool w) x
  rw [this, look_unit]
  by_cases hx : x ∈ M <;> simp [hx]
theorem HMap.run_delete {w : World} {k : Nat} {M : List Hnt} (h : HMap w k M) (x : Hnt) :
    ∃ w', (∀ ty, (Builtin.delete_ #[60, 66] ty #[.map (some k), x.val]).run Try.prog w = .ok (.tuple #[]) w') ∧ HMap w' k (strike M x) ∧ Fr [k] w w' ∧ w'.heap.size = w.heap.size := by
  obtain ⟨w', h1, h2, h3, h4⟩ := MapIs.run_delete (ty := 0) h hntLaw under_map x
  refine ⟨w', fun _ => h1, ?_, h3, h4⟩
  unfold HMap
  have : erase (M.map (fun h => (h, ()))) x = (strike M x).map (fun h => (h, ())) := by
    unfold erase strike
    rw [List.filter_map]; rfl
  rw [← this]; exact h2
theorem HMap.run_update {w : World} {k : Nat} {M : List Hnt} (h : HMap w k M) (x : Hnt) :
    ∃ w', (Instr.mapUpdate 60 (.map (some k)) x.val (.bool true)).run Try.prog w = .ok () w' ∧ HMap w' k (if x ∈ M then M else M ++ [x]) ∧ Fr [k] w w' ∧ w'.heap.size = w.heap.size := by
  obtain ⟨w', h1, h2, h3, h4⟩ := MapIs.run_update h hntLaw under_map x ()
  refine ⟨w', h1, ?_, h3, h4⟩
  unfold HMap
  have : put (M.map (fun h => (h, ()))) x () = (if x ∈ M then M else M ++ [x]).map (fun h => (h, ())) := by
    unfold put
    rw [look_unit]
    by_cases hx : x ∈ M
    · simp only [hx, if_true, Option.isSome_some]
      rw [List.map_map]
      refine List.map_congr_left fun p _ => ?_
      simp only [Function.comp]
      split
      · rename_i h; rw [h]
      · rfl
    · simp [hx]
  rw [← this]; exact h2

def ackStep (node : Int) (s : List Hnt × Nat) (p : Pt) : List Hnt × Nat := if (⟨p, node⟩ : Hnt) ∈ s.1 then (strike s.1 ⟨p, node⟩, s.2 + 1) else s
def ackL (M : List Hnt) (node : Int) (l : List Pt) : List Hnt × Nat := l.foldl (ackStep node) (M, 0)
theorem ackL_succ {M : List Hnt} {node : Int} {l : List Pt} {k : Nat} {p : Pt} (h : l[k]? = some p) : ackL M node (l.take (k + 1)) = ackStep node (ackL M node (l.take k)) p := by
  unfold ackL
  rw [List.take_add_one, h, List.foldl_append]; rfl
theorem ackL_le (M : List Hnt) (node : Int) (l : List Pt) : (ackL M node l).2 ≤ l.length := by
  have : ∀ (l : List Pt) (s : List Hnt × Nat), (l.foldl (ackStep node) s).2 ≤ s.2 + l.length := by
    intro l
    induction l with
    | nil => intro s; simp
    | cons p l ih =>
      intro s
      have := ih (ackStep node s p)
      simp only [List.foldl_cons, List.length_cons]
      have h2 : (ackStep node s p).2 ≤ s.2 + 1 := by unfold ackStep; split <;> simp
      omega
  have := this l (M, 0)
  simp only [Nat.zero_add] at this
  exact this

def PAck (b m : Nat) (most : Int) (s : List Hnt × Nat) (w : World) (e : Ending) (w' : World) : Prop :=
  e = .returned (.int .i64 s.2) ∧ IsHints w' b (some m) most s.1 ∧ Fr [m] w w'

set_option maxRecDepth 100000 in
set_option maxHeartbeats 1600000 in
theorem ack_any (b m : Nat) (most node : Int) (M : List Hnt) (l : List Pt) (n c B : Nat) (A : Option Addr) (w : World) (h : IsHints w b (some m) most M) (hr : Rd w B 6 A n (ptCells l)) (hB : B ≤ w.heap.size) (hn : n ≤ 100000) :
    Calls Try.prog 16 #[.pointer (some ⟨b, 0, none⟩), .int .i64 node, .slice A n c] w (PAck b m most (ackL M node l) w) := by
  have HN := Lib.hid hr.pt_len
  have H := Lib.hid h
  have HR := Lib.hid hr
  clear h hr
  go_enter Try.func16, Try.ntmps16
  go_wp2
  go_loopw [7, 13] (fun u i wr => ∃ k : Nat, k ≤ n ∧ i = .int .i64 k ∧ u = .int .i64 (ackL M node (l.take k)).2 ∧ Hid (IsHints wr b (some m) most (ackL M node (l.take k)).1 ∧ Fr [m] w wr)) (fun _ i _ => n - (intOf i).toNat)
  case atStart => exact ⟨0, Nat.zero_le _, rfl, rfl, Lib.hid ⟨H.out, Fr.refl _ _⟩⟩
  case round =>
    obtain ⟨k, hk, rfl, rfl, HI⟩ := hrel
    by_cases hlt : k < n
    · obtain ⟨bb, off, p, rfl, hb, hx, g0, g1, g2, g3, g4, g5⟩ := (HR.out.fr_map (by omega) HI.out.2 (H.out.some_ m rfl) hB).pt_at hlt
      have HX := Lib.hid hx
      clear hx
      have k0 := HI.out.1.room
      have k1 := HI.out.1.ref
      have hle : (ackL M node (l.take k)).2 ≤ k := Nat.le_trans (ackL_le M node (l.take k)) (List.length_take_le _ _)
      have hbl := HI.out.1.lt
      have hlk : ∀ q : Nat, (Instr.lookup 60 (.map (some m)) (.agg #[.string p.s, .int .i64 p.t, .int .i64 p.v, .int .i64 p.c, .int .i64 p.i, .int .i64 p.q, .int .i64 node]) false).run Try.prog
          (((wr.alloc (.cells #[.string p.s, .int .i64 p.t, .int .i64 p.v, .int .i64 p.c, .int .i64 p.i, .int .i64 p.q] 31)).alloc (.cells #[.string p.s, .int .i64 p.t, .int .i64 p.v, .int .i64 p.c, .int .i64 p.i, .int .i64 p.q, .int .i64 node] 66)).drewN q)
          = .ok (.bool (decide ((⟨p, node⟩ : Hnt) ∈ (ackL M node (l.take k)).1))) _ := fun q =>
        HMap.run_lookup ((((HI.out.1.some_ m rfl).alloc _).alloc _).drewN q) ⟨p, node⟩
      cases hd : decide ((⟨p, node⟩ : Hnt) ∈ (ackL M node (l.take k)).1)
      · rw [hd] at hlk
        have HD := Lib.hid hd
        clear hd
        go_wp2
        go_quiet (fail)
        go_wp2
        go_roundw
        case rel =>
          refine ⟨k + 1, by omega, by go_num, ?_, Lib.hid ?_⟩
          · rw [ackL_succ HX.out, ackStep, if_neg (by simpa using HD.out)]
          · rw [ackL_succ HX.out, ackStep, if_neg (by simpa using HD.out)]
            have hg : Grew wr (((wr.alloc (.cells #[.string p.s, .int .i64 p.t, .int .i64 p.v, .int .i64 p.c, .int .i64 p.i, .int .i64 p.q] 31)).alloc (.cells #[.string p.s, .int .i64 p.t, .int .i64 p.v, .int .i64 p.c, .int .i64 p.i, .int .i64 p.q, .int .i64 node] 66)).drewN nq) := (((Grew.refl _).alloc _).alloc _).drewN _
            exact ⟨HI.out.1.grew hg, HI.out.2.trans' (hg.fr _)⟩
        case measure => simp [intOf]; omega
      · rw [hd] at hlk
        have HD := Lib.hid hd
        clear hd
        go_wp2
        go_quiet (fail)
        go_wp2
        have hmw := ((((HI.out.1.some_ m rfl).alloc (.cells #[.string p.s, .int .i64 p.t, .int .i64 p.v, .int .i64 p.c, .int .i64 p.i, .int .i64 p.q] 31)).alloc (.cells #[.string p.s, .int .i64 p.t, .int .i64 p.v, .int .i64 p.c, .int .i64 p.i, .int .i64 p.q, .int .i64 node] 66)).drewN (nq + 1))
        obtain ⟨w2, hrun, hm2, hf2, hs2⟩ := HMap.run_delete hmw ⟨p, node⟩
        have HM2 := Lib.hid hm2
        have HF2 := Lib.hid hf2
        have HS2 := Lib.hid hs2
        clear hm2 hf2 hs2 hlk hmw
        simp only [Hnt.val] at hrun
        go_region
        go_wp2
        go_roundw
        case rel =>
          have hg : Grew wr (((wr.alloc (.cells #[.string p.s, .int .i64 p.t, .int .i64 p.v, .int .i64 p.c, .int .i64 p.i, .int .i64 p.q] 31)).alloc (.cells #[.string p.s, .int .i64 p.t, .int .i64 p.v, .int .i64 p.c, .int .i64 p.i, .int .i64 p.q, .int .i64 node] 66)).drewN (nq + 1)) := (((Grew.refl _).alloc _).alloc _).drewN _
          refine ⟨k + 1, by omega, by go_num, ?_, Lib.hid ?_⟩
          · rw [ackL_succ HX.out, ackStep, if_pos (by simpa using HD.out)]; go_num
          · rw [ackL_succ HX.out, ackStep, if_pos (by simpa using HD.out)]
            exact ⟨(HI.out.1.grew hg).turned HF2.out HM2.out, (HI.out.2.trans' (hg.fr _)).trans' HF2.out⟩
        case measure => simp [intOf]; omega
    · go_wp2
      go_ret
      have : k = n := by omega
      subst this
      rw [List.take_of_length_le (by rw [HN.out]; omega)] at HI ⊢
      exact ⟨rfl, HI.out⟩
end Go.Proofs.Ytmlelggakadpdaa
