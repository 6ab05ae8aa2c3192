/-
  Lists of points in memory: a slice that reads as a list of points; '==' and '!=' on points; the reference's 'Same' and 'SamePoints'.
-/
import Derived.Test.YtmlelggakadpdaaOrd
namespace Go.Proofs.Ytmlelggakadpdaa
open Go.RowKit

structure Pt where
  s : ByteArray
  t : Int
  v : Int
  c : Int
  i : Int
  q : Int
  deriving DecidableEq
theorem Pt.ext_iff' (p r : Pt) : p = r ↔ p.s = r.s ∧ p.t = r.t ∧ p.v = r.v ∧ p.c = r.c ∧ p.i = r.i ∧ p.q = r.q := by
  cases p; cases r; simp
instance : Inhabited Pt := ⟨⟨ByteArray.empty, 0, 0, 0, 0, 0⟩⟩
def Pt.cells (p : Pt) : List Value := [.string p.s, .int .i64 p.t, .int .i64 p.v, .int .i64 p.c, .int .i64 p.i, .int .i64 p.q]
def ptCells (l : List Pt) : List Value := l.flatMap Pt.cells
theorem length_ptCells : ∀ l : List Pt, (ptCells l).length = l.length * 6
  | [] => rfl
  | p :: r => by
    have := length_ptCells r
    simp only [ptCells, List.flatMap_cons, List.length_append, List.length_cons] at this ⊢
    rw [this]
    simp [Pt.cells]; omega
theorem ptCells_append (l m : List Pt) : ptCells (l ++ m) = ptCells l ++ ptCells m := by simp [ptCells]
theorem ptCells_take : ∀ (l : List Pt) (n : Nat), (ptCells l).take (n * 6) = ptCells (l.take n)
  | [], n => by simp [ptCells]
  | p :: r, 0 => by simp [ptCells]
  | p :: r, n + 1 => by
    have ih := ptCells_take r n
    simp only [ptCells, List.flatMap_cons, List.take_succ_cons] at ih ⊢
    rw [show (n + 1) * 6 = p.cells.length + n * 6 by simp [Pt.cells]; omega, List.take_length_add_append, ih]
theorem ptCells_drop : ∀ (l : List Pt) (n : Nat), (ptCells l).drop (n * 6) = ptCells (l.drop n)
  | [], n => by simp [ptCells]
  | p :: r, 0 => by simp [ptCells]
  | p :: r, n + 1 => by
    have ih := ptCells_drop r n
    simp only [ptCells, List.flatMap_cons, List.drop_succ_cons] at ih ⊢
    rw [show (n + 1) * 6 = p.cells.length + n * 6 by simp [Pt.cells]; omega, List.drop_length_add_append, ih]
theorem ptCells_at {l : List Pt} {k : Nat} {p : Pt} (h : l[k]? = some p) (j : Nat) (hj : j < 6) : (ptCells l)[k * 6 + j]? = p.cells[j]? := by
  have e : (ptCells l)[k * 6 + j]? = ((ptCells l).drop (k * 6))[j]? := by rw [List.getElem?_drop]
  rw [e, ptCells_drop]
  obtain ⟨hk, rfl⟩ := List.getElem?_eq_some_iff.1 h
  rw [List.drop_eq_getElem_cons hk]
  simp only [ptCells, List.flatMap_cons]
  rw [List.getElem?_append_left (by simpa [Pt.cells] using hj)]
theorem ptCells_one (l : List Pt) : ∀ u ∈ ptCells l, u.oneCell' = true := by
  intro u hu
  obtain ⟨p, _, hp⟩ := List.mem_flatMap.1 hu
  simp [Pt.cells] at hp
  rcases hp with rfl | rfl | rfl | rfl | rfl | rfl <;> rfl

theorem Rd.pt_len {w : World} {B n : Nat} {A : Option Addr} {l : List Pt} (h : Rd w B 6 A n (ptCells l)) : l.length = n := by
  have := h.len
  rw [length_ptCells] at this
  omega
theorem Rd.pt_at {w : World} {B n : Nat} {A : Option Addr} {l : List Pt} (h : Rd w B 6 A n (ptCells l)) {k : Nat} (hk : k < n) :
    ∃ b off p, A = some ⟨b, off, none⟩ ∧ b < B ∧ l[k]? = some p ∧ w.cell? ⟨b, off + k * 6, none⟩ = some (.string p.s) ∧ w.cell? ⟨b, off + k * 6 + 1, none⟩ = some (.int .i64 p.t) ∧
      w.cell? ⟨b, off + k * 6 + 2, none⟩ = some (.int .i64 p.v) ∧ w.cell? ⟨b, off + k * 6 + 3, none⟩ = some (.int .i64 p.c) ∧ w.cell? ⟨b, off + k * 6 + 4, none⟩ = some (.int .i64 p.i) ∧
      w.cell? ⟨b, off + k * 6 + 5, none⟩ = some (.int .i64 p.q) := by
  obtain ⟨b, off, e, hb, hc⟩ := h.cells (by omega)
  have hl : k < l.length := by rw [h.pt_len]; exact hk
  have hp : l[k]? = some l[k] := List.getElem?_eq_getElem hl
  have g : ∀ j (hj : j < 6), w.cell? ⟨b, off + k * 6 + j, none⟩ = l[k].cells[j]? := fun j hj => by
    have hlen : j < l[k].cells.length := by simpa [Pt.cells] using hj
    rw [Nat.add_assoc, List.getElem?_eq_getElem hlen]
    exact hc _ _ (by rw [ptCells_at hp j hj, List.getElem?_eq_getElem hlen])
  exact ⟨b, off, l[k], e, hb, hp, g 0 (by omega), g 1 (by omega), g 2 (by omega), g 3 (by omega), g 4 (by omega), g 5 (by omega)⟩

theorem pt_guard : Try.prog.eqGuardType Try.prog.depth 31 = false := by kernel_rfl
theorem pt_stood : Try.prog.stoodInHeld 31 = false := by kernel_rfl
theorem st_stood : Try.prog.stoodInHeld 29 = false := by kernel_rfl

theorem run_eq_st (d : Nat) (c1 i1 q1 c2 i2 q2 : Int) (w : World) : (Op.equalIn (d + 2) 29 (.agg #[.int .i64 c1, .int .i64 i1, .int .i64 q1]) (.agg #[.int .i64 c2, .int .i64 i2, .int .i64 q2])).run Try.prog w =
    .ok (decide (c1 = c2) && (decide (i1 = i2) && decide (q1 = q2))) w := by
  by_cases h3 : c1 = c2
  · by_cases h4 : i1 = i2
    · by_cases h5 : q1 = q2
      · simp [go_sem, h3, h4, h5]
      · simp [go_sem, h3, h4, h5]
    · simp [go_sem, h3, h4]
  · simp [go_sem, h3]

set_option maxHeartbeats 800000 in
theorem run_eq_pt (d : Nat) (p r : Pt) (w : World) : (Op.equalIn (d + 3) 31 (.agg p.cells.toArray) (.agg r.cells.toArray)).run Try.prog w = .ok (decide (p = r)) w := by
  have h : (decide (p = r)) = (seq p.s r.s && (decide (p.t = r.t) && (decide (p.v = r.v) && (decide (p.c = r.c) && (decide (p.i = r.i) && decide (p.q = r.q)))))) := by
    rw [Bool.eq_iff_iff]
    simp only [decide_eq_true_eq, Bool.and_eq_true, seq_iff]
    cases p; cases r; simp
  have hst := fun w => run_eq_st d p.c p.i p.q r.c r.i r.q w
  rw [h]
  by_cases h0 : seq p.s r.s = true
  · have h0' : (p.s.toList == r.s.toList) = true := h0
    by_cases h1 : p.t = r.t
    · by_cases h2 : p.v = r.v
      · simp only [Pt.cells]
        cases hb : (decide (p.c = r.c) && (decide (p.i = r.i) && decide (p.q = r.q)))
        · rw [hb] at hst
          simp [go_sem, h0, h0', h1, h2, hst]
        · rw [hb] at hst
          simp [go_sem, h0, h0', h1, h2, hst]
      · simp [go_sem, h0, h0', h1, h2, Pt.cells]
    · simp [go_sem, h0, h0', h1, Pt.cells]
  · have h0' : (p.s.toList == r.s.toList) = false := by simpa [seq] using h0
    simp [go_sem, h0, h0', Pt.cells]

theorem run_neq_pt (p r : Pt) (w : World) : (binOp .neq 31 (.agg #[.string p.s, .int .i64 p.t, .int .i64 p.v, .int .i64 p.c, .int .i64 p.i, .int .i64 p.q]) (.agg #[.string r.s, .int .i64 r.t, .int .i64 r.v, .int .i64 r.c, .int .i64 r.i, .int .i64 r.q])).run Try.prog w = .ok (.bool (!decide (p = r))) w := by
  rw [run_neq_struct]
  have := run_eq_pt 9997 p r w
  simp only [Pt.cells] at this
  rw [this]; rfl
theorem run_eql_pt (p r : Pt) (w : World) : (binOp .eql 31 (.agg #[.string p.s, .int .i64 p.t, .int .i64 p.v, .int .i64 p.c, .int .i64 p.i, .int .i64 p.q]) (.agg #[.string r.s, .int .i64 r.t, .int .i64 r.v, .int .i64 r.c, .int .i64 r.i, .int .i64 r.q])).run Try.prog w = .ok (.bool (decide (p = r))) w := by
  rw [run_eql_struct]
  have := run_eq_pt 9997 p r w
  simp only [Pt.cells] at this
  rw [this]; rfl

theorem take_eq_succ {α : Type} {l m : List α} {k : Nat} {x : α} (h : l.take k = m.take k) (hx : l[k]? = some x) (hy : m[k]? = some x) : l.take (k + 1) = m.take (k + 1) := by
  rw [List.take_add_one, List.take_add_one, h, hx, hy]
theorem ne_of_at {α : Type} {l m : List α} {k : Nat} {x y : α} (hx : l[k]? = some x) (hy : m[k]? = some y) (h : x ≠ y) : l ≠ m := by
  rintro rfl
  rw [hx] at hy
  exact h (by injection hy)

set_option maxHeartbeats 400000 in
theorem same_any (l m : List Int) (n n' : Nat) (A A' : Option Addr) (c c' B B' : Nat) (w : World) (h : Rd w B 1 A n (intCells l)) (h' : Rd w B' 1 A' n' (intCells m)) (hl : n ≤ 9223372036854775807) :
    Calls Try.prog 28 #[.slice A n c, .slice A' n' c'] w (PBool (decide (l = m)) w) := by
  have e1 : l.length = n := by have := h.len; simp [length_intCells] at this; exact this
  have e2 : m.length = n' := by have := h'.len; simp [length_intCells] at this; exact this
  by_cases hlen : n = n'
  · subst hlen
    have E1 := Lib.hid e1
    have E2 := Lib.hid e2
    have H := Lib.hid h
    have H' := Lib.hid h'
    clear e1 e2 h h'
    go_enter Try.func28, Try.ntmps28
    go_wp2
    go_loopw [5] (fun i wr => ∃ k q : Nat, k ≤ n ∧ i = .int .i64 k ∧ Hid (l.take k = m.take k) ∧ wr = w.drewN q) (fun i _ => n - (intOf i).toNat)
    case atStart => exact ⟨0, 0, Nat.zero_le _, rfl, Lib.hid (by simp), rfl⟩
    case round =>
      obtain ⟨k, q, hk, rfl, HP, rfl⟩ := hrel
      by_cases hlt : k < n
      · obtain ⟨b, off, x, rfl, hb, hx, hc⟩ := H.out.int_at hlt
        obtain ⟨b', off', x', rfl, hb', hx', hc'⟩ := H'.out.int_at hlt
        have HX := Lib.hid hx
        have HX' := Lib.hid hx'
        clear hx hx'
        go_wp2
        go_quiet (fail)
        go_wp2
        · go_ret
          have hne : x ≠ x' := by simpa using ‹(x != x') = true›
          exact PBool.mk (by symm; simpa using ne_of_at HX.out HX'.out hne) (by repeat (first | exact Grew.refl _ | apply Grew.drewN))
        · go_roundw
          case rel =>
            have he : x = x' := by simpa using ‹(x != x') = false›
            exact ⟨k + 1, _, by omega, by go_num, Lib.hid (take_eq_succ HP.out HX.out (he ▸ HX'.out)), rfl⟩
          case measure => simp [intOf]; omega
      · go_wp2
        go_ret
        have : k = n := by omega
        subst this
        refine PBool.mk ?_ ((Grew.refl _).drewN _)
        have : l = m := by have := HP.out; rw [List.take_of_length_le (by rw [E1.out]; omega), List.take_of_length_le (by rw [E2.out]; omega)] at this; exact this
        simp [this]
  · have hq : ((n : Int) != (n' : Int)) = true := by simp; omega
    have hf : decide (l = m) = false := by simp; intro e; exact hlen (by rw [← e1, ← e2, e])
    clear e1 e2
    go_enter Try.func28, Try.ntmps28
    go_wp2
    go_ret
    exact PBool.mk hf.symm (Grew.refl _)

set_option maxHeartbeats 800000 in
theorem samepts_any (l m : List Pt) (n n' : Nat) (A A' : Option Addr) (c c' B B' : Nat) (w : World) (h : Rd w B 6 A n (ptCells l)) (h' : Rd w B' 6 A' n' (ptCells m)) (hl : n ≤ 1000000000000) :
    Calls Try.prog 22 #[.slice A n c, .slice A' n' c'] w (PBool (decide (l = m)) w) := by
  have e1 := h.pt_len
  have e2 := h'.pt_len
  by_cases hlen : n = n'
  · subst hlen
    have E1 := Lib.hid e1
    have E2 := Lib.hid e2
    have H := Lib.hid h
    have H' := Lib.hid h'
    have hgd := pt_guard
    clear e1 e2 h h'
    go_enter Try.func22, Try.ntmps22
    go_wp2
    go_loopw [5] (fun i wr => ∃ k q : Nat, k ≤ n ∧ i = .int .i64 k ∧ Hid (l.take k = m.take k) ∧ wr = w.drewN q) (fun i _ => n - (intOf i).toNat)
    case atStart => exact ⟨0, 0, Nat.zero_le _, rfl, Lib.hid (by simp), rfl⟩
    case round =>
      obtain ⟨k, q, hk, rfl, HP, rfl⟩ := hrel
      by_cases hlt : k < n
      · obtain ⟨b, off, p, rfl, hb, hx, g0, g1, g2, g3, g4, g5⟩ := H.out.pt_at hlt
        obtain ⟨b', off', r, rfl, hb', hx', k0, k1, k2, k3, k4, k5⟩ := H'.out.pt_at hlt
        have HX := Lib.hid hx
        have HX' := Lib.hid hx'
        clear hx hx'
        have hne := run_neq_pt p r
        cases hd : decide (p = r)
        · rw [hd] at hne
          have HD := Lib.hid hd
          clear hd
          go_wp2
          go_quiet (fail)
          go_wp2
          go_ret
          exact PBool.mk (by symm; simpa using ne_of_at HX.out HX'.out (by simpa using HD.out)) (by repeat (first | exact Grew.refl _ | apply Grew.drewN))
        · rw [hd] at hne
          have HD := Lib.hid hd
          clear hd
          go_wp2
          go_quiet (fail)
          go_wp2
          go_roundw
          case rel =>
            have he : p = r := by simpa using HD.out
            exact ⟨k + 1, _, by omega, by go_num, Lib.hid (take_eq_succ HP.out HX.out (he ▸ HX'.out)), rfl⟩
          case measure => simp [intOf]; omega
      · go_wp2
        go_ret
        have : k = n := by omega
        subst this
        refine PBool.mk ?_ ((Grew.refl _).drewN _)
        have : l = m := by have := HP.out; rw [List.take_of_length_le (by rw [E1.out]; omega), List.take_of_length_le (by rw [E2.out]; omega)] at this; exact this
        simp [this]
  · have hq : ((n : Int) != (n' : Int)) = true := by simp; omega
    have hf : decide (l = m) = false := by simp; intro e; exact hlen (by rw [← e1, ← e2, e])
    clear e1 e2
    go_enter Try.func22, Try.ntmps22
    go_wp2
    go_ret
    exact PBool.mk hf.symm (Grew.refl _)
end Go.Proofs.Ytmlelggakadpdaa
