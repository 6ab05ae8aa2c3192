/-
  The reference's list of nodes (heliographref09.Nodes), and the law's own 'small'.
-/
import Derived.Test.YtmlelggakadpdaaLaw0
import Derived.Test.YtmlelggakadpdaaNodP
namespace Go.Proofs.Ytmlelggakadpdaa
open Go.RowKit

/-- The nodes below k that are in the list. -/
def refTo (l : List Int) (k : Nat) : List Int := ((List.range k).map Int.ofNat).filter (fun n => decide (n ∈ l))
theorem refTo_succ (l : List Int) (k : Nat) : refTo l (k + 1) = refTo l k ++ if (k : Int) ∈ l then [(k : Int)] else [] := by
  unfold refTo
  rw [List.range_succ, List.map_append, List.filter_append]
  by_cases h : (k : Int) ∈ l
  · simp [h]
  · simp [h]
theorem length_refTo (l : List Int) (k : Nat) : (refTo l k).length ≤ k := by
  unfold refTo
  have := List.length_filter_le (fun n => decide (n ∈ l)) ((List.range k).map Int.ofNat)
  simpa using this

set_option maxRecDepth 100000 in
set_option maxHeartbeats 1600000 in
theorem rnodes_any (l : List Int) (n c B : Nat) (A : Option Addr) (w : World) (hr : Rd w B 1 A n (intCells l)) (hB : B ≤ w.heap.size) (hn : n ≤ 9223372036854775807) :
    Calls Try.prog 10 #[.slice A n c] w (PInts (ref9 l) w) := by
  have HR := Lib.hid hr
  have hl : l.length = n := by have := hr.len; rw [length_intCells] at this; omega
  have HL := Lib.hid hl
  clear hr hl
  go_enter Try.func10, Try.ntmps10
  go_wp2_with fail
  go_loopw [3, 4] (fun u i wr => ∃ k : Nat, k ≤ 16 ∧ i = .int .i64 k ∧ Hid (Fr [] w wr) ∧ wr.ownsRow w.heap.size 3 1 u (refTo l k).length (intCells (refTo l k))) (fun _ i _ => 16 - (intOf i).toNat)
  case atStart => exact ⟨0, by omega, rfl, Lib.hid (Fr.refl _ _), World.ownsRow_nil _ _ _ _⟩
  case round =>
    obtain ⟨k, hk, rfl, HF, hown⟩ := hrel
    have HO := Lib.hid hown
    clear hown
    have hlen := length_refTo l k
    have hs := HF.out.size
    by_cases hlt : k < 16
    · have hsu := refTo_succ l k
      have HS := Lib.hid hsu
      clear hsu
      obtain ⟨wo, rfl⟩ : ∃ wo : World, wo = wr := ⟨_, rfl⟩
      obtain ⟨v0, rfl⟩ : ∃ v0 : Value, v0 = u3 := ⟨_, rfl⟩
      go_wp2_with fail
      go_loopw [3, 5] (fun u i w2 => ∃ j : Nat, j ≤ n ∧ i = .int .i64 j ∧ u = v0 ∧ Hid ((k : Int) ∉ l.take j) ∧ w2 = wo) (fun _ i _ => n - (intOf i).toNat)
      case atStart => exact ⟨0, Nat.zero_le _, rfl, rfl, Lib.hid (by simp), rfl⟩
      case round =>
        obtain ⟨j, hj, rfl, rfl, HN, rfl⟩ := hrel
        by_cases hlt2 : j < n
        · obtain ⟨b, off, x, rfl, hb, hx, hc⟩ := (HR.out.fr HF.out hB (by simp)).int_at hlt2
          have HX := Lib.hid hx
          clear hx
          have hbl : b < wr.heap.size := by omega
          by_cases hxk : x = k
          · subst hxk
            have hin : (k : Int) ∈ l := List.mem_of_getElem? HX.out
            have HIN := Lib.hid hin
            clear hin
            go_wp2_with (at_builtin; refine wpList_append_one rfl _ _ 23 rfl w.heap.size 3 _ 1 8 Try.underlying23 info_int rfl (by omega) _ _ _ rfl (HO.out.alloc _) wr.heap.size #[.int .i64 k] 3 (by rfl) (heap_alloc_at (by simp)) rfl (by simp [Value.oneCell']) (by unfold maxLen; omega) (by omega) (by simp; omega) ?_; intro v3 w3 hown3 hg3; go_frame)
            go_roundw
            case rel =>
              refine ⟨k + 1, by omega, by go_num, Lib.hid ((HF.out.alloc _).appended (HO.out.alloc _) (Nat.le_refl _) hg3), ?_⟩
              rw [HS.out, if_pos HIN.out]
              simpa [intCells] using hown3
            case measure => simp [intOf]; omega
          · have hxb : (x == (k : Int)) = false := by simpa using hxk
            have HXK := Lib.hid hxk
            clear hxk
            go_wp2_with fail
            go_roundw
            case rel =>
              refine ⟨j + 1, by omega, by go_num, rfl, Lib.hid ?_, by first | rfl | trivial⟩
              rw [List.take_add_one, HX.out]
              simp
              exact ⟨HN.out, fun e => HXK.out e.symm⟩
            case measure => simp [intOf]; omega
        · go_wp2_with fail
          go_roundw
          case rel =>
            refine ⟨k + 1, by omega, by go_num, HF, ?_⟩
            have hno := HN.out
            rw [List.take_of_length_le (by rw [HL.out]; omega)] at hno
            rw [HS.out, if_neg hno]
            simpa using HO.out
          case measure => simp [intOf]; omega
    · obtain rfl : k = 16 := by omega
      obtain ⟨A', c', hu, hc'⟩ := own_slice HO.out
      subst hu
      go_wp2_with fail
      go_ret
      exact ⟨A', c', rfl, Rd.of_own HO.out, HF.out⟩

/-- The point with a name of 60 bytes at most. -/
def smallP (p : Pt) : Pt := if 60 < p.s.size then { p with s := p.s.extract 0 60 } else p
theorem smallP_le (p : Pt) (h : p.s.size ≤ maxLen) : (smallP p).s.size ≤ maxLen := by
  unfold smallP
  split
  · show (p.s.extract 0 60).size ≤ _
    rw [ByteArray.size_extract]; unfold maxLen; omega
  · exact h

set_option maxHeartbeats 800000 in
theorem small_any (p : Pt) (w : World) (hs : p.s.size ≤ maxLen) : Calls Try.prog 11 #[.agg #[.string p.s, .int .i64 p.t, .int .i64 p.v, .int .i64 p.c, .int .i64 p.i, .int .i64 p.q]] w (PPoint (smallP p) w) := by
  unfold maxLen at hs
  go_enter Try.func11, Try.ntmps11
  go_wp2_with fail
  · refine bodyPost_ret (v := .agg #[.string (p.s.extract 0 60), .int .i64 p.t, .int .i64 p.v, .int .i64 p.c, .int .i64 p.i, .int .i64 p.q]) ?_ rfl ?_
    · simp [results, Try.results11, go_sem]
    · have e : smallP p = ⟨p.s.extract 0 60, p.t, p.v, p.c, p.i, p.q⟩ := by unfold smallP; rw [if_pos (by omega)]
      rw [e]
      exact ⟨rfl, ((Grew.refl _).alloc _).alloc _⟩
  · refine bodyPost_ret (v := .agg #[.string p.s, .int .i64 p.t, .int .i64 p.v, .int .i64 p.c, .int .i64 p.i, .int .i64 p.q]) ?_ rfl ?_
    · simp [results, Try.results11, go_sem]
    · have e : smallP p = p := by unfold smallP; rw [if_neg (by omega)]
      rw [e]
      exact ⟨rfl, ((Grew.refl _).alloc _).alloc _⟩
end Go.Proofs.Ytmlelggakadpdaa
