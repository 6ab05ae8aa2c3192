/-
  The key of the map of hints: a point and a node; the program's hints in memory.
-/
import Derived.Test.YtmlelggakadpdaaPtL
import Derived.Test.YtmlelggakadpdaaOwn
import Derived.KernelRfl
namespace Go.Proofs.Ytmlelggakadpdaa
open Go.RowKit
set_option linter.unusedSimpArgs false

structure Hnt where
  p : Pt
  n : Int
  deriving DecidableEq
def Hnt.val (h : Hnt) : Value := .agg #[.string h.p.s, .int .i64 h.p.t, .int .i64 h.p.v, .int .i64 h.p.c, .int .i64 h.p.i, .int .i64 h.p.q, .int .i64 h.n]
def Hnt.cells (h : Hnt) : List Value := [.string h.p.s, .int .i64 h.p.t, .int .i64 h.p.v, .int .i64 h.p.c, .int .i64 h.p.i, .int .i64 h.p.q, .int .i64 h.n]
theorem hnt_check (x : Hnt) (em : Bool) (w : World) : (Instr.checkKey em 10000 66 x.val).run Try.prog w = .ok () w := by
  kernel_rfl
theorem hnt_same (x : Hnt) : Instr.sameBits 10000 x.val x.val = true := by
  have : (x.p.s == x.p.s) = true := by rw [beq_toListBytes]; simp
  simp [Instr.sameBits, Hnt.val, this]
theorem hnt_inj (x y : Hnt) (h : x.val = y.val) : x = y := by
  cases x; cases y
  simp [Hnt.val] at h
  simp [Pt.ext_iff', h]
theorem run_eq_hnt (x y : Hnt) (w : World) : (Op.equal 66 x.val y.val).run Try.prog w = .ok (decide (x = y)) w := by
  have hpt := fun w => run_eq_pt 9996 x.p y.p w
  simp only [Pt.cells] at hpt
  have hxy : decide (x = y) = (decide (x.p = y.p) && decide (x.n = y.n)) := by
    cases x; cases y; simp
  rw [hxy]
  unfold Op.equal
  show (Op.equalIn 10000 66 x.val y.val).run Try.prog w = _
  by_cases h0 : x.p = y.p
  · have hd : decide (x.p = y.p) = true := by simp [h0]
    rw [hd] at hpt
    by_cases h1 : x.n = y.n
    · simp [go_sem, Hnt.val, hpt, h1, hd]
    · simp [go_sem, Hnt.val, hpt, h1, hd]
  · have hd : decide (x.p = y.p) = false := by simp [h0]
    rw [hd] at hpt
    simp [go_sem, Hnt.val, hpt, hd]
theorem hnt_ask (x : Hnt) : ∀ (es : List MapEntry) (i : Nat) (w : World), (∀ e ∈ es, ∃ y : Hnt, e.key = y.val) →
    ((Instr.findAsking 66 x.val es i).run Try.prog w = .ok none w ∧ ∀ e ∈ es, e.key ≠ x.val) ∨
    ∃ j e, es[j]? = some e ∧ e.key = x.val ∧ (Instr.findAsking 66 x.val es i).run Try.prog w = .ok (some (i + j, e.val)) w
  | [], i, w, _ => .inl ⟨rfl, by simp⟩
  | e :: es, i, w, h => by
    obtain ⟨y, hy⟩ := h e (by simp)
    by_cases hxy : x = y
    · refine .inr ⟨0, e, rfl, by rw [hy, hxy], ?_⟩
      simp [Instr.findAsking, hy, run_eq_hnt, hxy, Result.andThen]
    · have hne : e.key ≠ x.val := fun e' => hxy (hnt_inj _ _ (by rw [← e', hy]))
      rcases hnt_ask x es (i + 1) w (fun e he => h e (by simp [he])) with ⟨h1, h2⟩ | ⟨j, e0, h1, h2, h3⟩
      · refine .inl ⟨by simp [Instr.findAsking, hy, run_eq_hnt, hxy, Result.andThen, h1], ?_⟩
        intro e1 he1
        rcases List.mem_cons.1 he1 with rfl | he1
        · exact hne
        · exact h2 e1 he1
      · refine .inr ⟨j + 1, e0, by simpa using h1, h2, ?_⟩
        simp [Instr.findAsking, hy, run_eq_hnt, hxy, Result.andThen, h3]
        omega
theorem hntLaw : KeyLaw Try.prog 66 Hnt.val where
  inj := hnt_inj
  check := hnt_check
  same := hnt_same
  find x es w h := by
    rw [run_findKey_eq w (k := 66) (by kernel_rfl)]
    rcases hnt_ask x es 0 w h with h | ⟨j, e, h1, h2, h3⟩
    · exact .inl h
    · exact .inr ⟨j, e, h1, h2, by rw [h3]; simp⟩

/-- The list without x. -/
def strike (l : List Hnt) (x : Hnt) : List Hnt := l.filter (fun y => decide (y ≠ x))
/-- The map of hints holds M. -/
def HMap (w : World) (m : Nat) (M : List Hnt) : Prop := MapIs Hnt.val (fun _ : Unit => .bool true) w m (M.map (fun h => (h, ())))
/-- The hints at block b: their room is most, what they hold is M; the map's block is m; m none: a nil map. -/
structure IsHints (w : World) (b : Nat) (m : Option Nat) (most : Int) (M : List Hnt) : Prop where
  room : w.cell? ⟨b, 0, none⟩ = some (.int .i64 most)
  ref : w.cell? ⟨b, 1, none⟩ = some (.map m)
  none_ : m = none → M = []
  some_ : ∀ k, m = some k → HMap w k M
  apart : ∀ k, m = some k → k ≠ b
section
variable {w w1 : World} {b : Nat} {m : Option Nat} {most : Int} {M : List Hnt} {S : List Nat}
theorem IsHints.lt (h : IsHints w b m most M) : b < w.heap.size := World.block_lt_of_cell? w _ h.room
theorem IsHints.fr (h : IsHints w b m most M) (hf : Fr S w w1) (hb : b ∉ S) (hm : ∀ k, m = some k → k ∉ S) : IsHints w1 b m most M :=
  ⟨(hf.cell h.lt hb).trans h.room, (hf.cell h.lt hb).trans h.ref, h.none_, fun k hk => (h.some_ k hk).fr hf (hm k hk), h.apart⟩
theorem IsHints.grew (h : IsHints w b m most M) (hf : Grew w w1) : IsHints w1 b m most M := h.fr (hf.fr []) (by simp) (by simp)
theorem IsHints.turned {k : Nat} {M' : List Hnt} (h : IsHints w b (some k) most M) (hf : Fr [k] w w1) (hm : HMap w1 k M') : IsHints w1 b (some k) most M' :=
  have hb : b ∉ [k] := fun e => by simp at e; exact h.apart k rfl e.symm
  ⟨(hf.cell h.lt hb).trans h.room, (hf.cell h.lt hb).trans h.ref, fun e => by (cases e), fun j hj => by (cases hj; exact hm), fun j hj => by (cases hj; exact h.apart k rfl)⟩
theorem IsHints.same (h : IsHints w b m most M) (hW : w1.heap = w.heap) : IsHints w1 b m most M :=
  ⟨(World.cell?_of_block (by rw [hW])).trans h.room, (World.cell?_of_block (by rw [hW])).trans h.ref, h.none_, fun k hk => (h.some_ k hk).kept (by rw [hW]), h.apart⟩
theorem IsHints.nodup (h : IsHints w b m most M) : M.Nodup := by
  cases m with
  | none => rw [h.none_ rfl]; exact List.nodup_nil
  | some k =>
    obtain ⟨_, _, _, _, hn, _⟩ := h.some_ k rfl
    rw [List.map_map] at hn
    simpa [Function.comp_def] using hn
end
end Go.Proofs.Ytmlelggakadpdaa
