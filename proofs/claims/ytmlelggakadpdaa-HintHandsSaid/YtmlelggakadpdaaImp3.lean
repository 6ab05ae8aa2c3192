/-
  The program's hints: a range over them; Drop.
-/
import Derived.Test.YtmlelggakadpdaaImp2
namespace Go.Proofs.Ytmlelggakadpdaa
open Go.RowKit

def HIter (w : World) (m r : Nat) (M todo : List Hnt) : Prop := IterIs Hnt.val (fun _ : Unit => .bool true) w m r (M.map (fun h => (h, ()))) (todo.map (fun h => (h, ())))
theorem erase_unit (M : List Hnt) (x : Hnt) : erase (M.map (fun h => (h, ()))) x = (strike M x).map (fun h => (h, ())) := by
  unfold erase strike
  rw [List.filter_map]; rfl
section
variable {w w1 : World} {m r : Nat} {M todo : List Hnt} {S : List Nat}
theorem HIter.map (h : HIter w m r M todo) : HMap w m M := IterIs.map h
theorem HIter.fr (h : HIter w m r M todo) (hf : Fr S w w1) (hm : m ∉ S) (hr : r ∉ S) : HIter w1 m r M todo := IterIs.fr h hf hm hr
theorem HIter.lt (h : HIter w m r M todo) : r < w.heap.size := IterIs.lt h
theorem HIter.alloc (h : HIter w m r M todo) (o : Obj) : HIter (w.alloc o) m r M todo := IterIs.alloc h o
theorem HIter.drew (h : HIter w m r M todo) : HIter w.drew m r M todo := h
theorem HIter.drewN (h : HIter w m r M todo) (n : Nat) : HIter (w.drewN n) m r M todo := h
theorem HMap.nodup (h : HMap w m M) : M.Nodup := by
  obtain ⟨_, _, _, _, hn, _⟩ := h
  rw [List.map_map] at hn
  simpa [Function.comp_def] using hn
theorem HIter.left (h : HIter w m r M todo) : w.rangeLeft m r = todo.length := by
  obtain ⟨es, clk, since, seen, c0, hb, _, _, _, _, hr, _, _, _, ht⟩ := h
  simp only [World.rangeLeft, hb, hr]
  have : (leftOf es seen).size = (es.toList.filter (fun e => !seen.contains e.born)).length := by simp [leftOf, ← Array.length_toList]
  rw [this]
  have := congrArg List.length ht
  simpa using this
theorem HIter.sub (h : HIter w m r M todo) : ∀ x ∈ todo, x ∈ M := by
  intro x hx
  obtain ⟨es, clk, since, seen, c0, hb, hp, _, _, _, hr, _, _, _, ht⟩ := h
  have h1 : (x.val, Value.bool true) ∈ (todo.map (fun h => (h, ()))).map (fun p => (Hnt.val p.1, (fun _ : Unit => Value.bool true) p.2)) := List.mem_map.2 ⟨(x, ()), List.mem_map.2 ⟨x, hx, rfl⟩, rfl⟩
  rw [← ht] at h1
  obtain ⟨e, he, hee⟩ := List.mem_map.1 h1
  have h2 : (e.key, e.val) ∈ (M.map (fun h => (h, ()))).map (fun p => (Hnt.val p.1, (fun _ : Unit => Value.bool true) p.2)) := by rw [← hp]; exact List.mem_map.2 ⟨e, (List.mem_filter.1 he).1, rfl⟩
  obtain ⟨q, hq, hqe⟩ := List.mem_map.1 h2
  obtain ⟨y, hy, rfl⟩ := List.mem_map.1 hq
  have : y.val = x.val := by
    have := congrArg Prod.fst (hqe.trans hee)
    exact this
  rw [hnt_inj _ _ this] at hy
  exact hy
end
section
variable {w : World} {m r : Nat} {M todo : List Hnt} {ops : Array Oper} {rest : List Oper} {o : Oper} {a : Act} {Q : Exit → Act → World → Prop}
theorem wpList_range_h (hg : o.guard = none) (x : Operand) (hop : o.op = Op.range 60 x) (hx : a.eval x = .map (some m)) (h : HMap w m M)
    (hK : ∀ w', HIter w' m w.heap.size M M → Grew w w' → w'.heap.size = w.heap.size + 1 → wpList Try.prog ops Q rest (a.put o.dst (.pointer (some ⟨w.heap.size, 0, none⟩))) w') : wpList Try.prog ops Q (o :: rest) a w :=
  wpList_range_is hg x 60 4 hop under_map hx h hK
theorem wpList_next_h (hg : o.guard = none) (it : Operand) (hop : o.op = Op.next it false) (hit : a.eval it = .pointer (some ⟨r, 0, none⟩)) (h : HIter w m r M todo)
    (hDone : todo = [] → wpList Try.prog ops Q rest (a.put o.dst (.tuple #[.bool false])) w)
    (hMore : ∀ x w', x ∈ todo → HIter w' m r M (strike todo x) → Fr [r] w w' → w'.heap.size = w.heap.size → (Instr.entry (.pointer (some ⟨r, 0, none⟩))).run Try.prog w' = .ok (.tuple #[.agg #[.string x.p.s, .int .i64 x.p.t, .int .i64 x.p.v, .int .i64 x.p.c, .int .i64 x.p.i, .int .i64 x.p.q, .int .i64 x.n], .bool true]) w' →
      wpList Try.prog ops Q rest (a.put o.dst (.tuple #[.bool true, .agg #[.string x.p.s, .int .i64 x.p.t, .int .i64 x.p.v, .int .i64 x.p.c, .int .i64 x.p.i, .int .i64 x.p.q, .int .i64 x.n], .bool true])) w') : wpList Try.prog ops Q (o :: rest) a w := by
  refine wpList_next_is hg it hop hntLaw hit h (fun e => hDone (by cases todo with | nil => rfl | cons _ _ => simp at e)) ?_
  rintro ⟨x, u⟩ w' hp h1 h2 h3 h4
  rw [erase_unit] at h1
  refine hMore x w' ?_ h1 h2 h3 h4
  obtain ⟨y, hy, he⟩ := List.mem_map.1 hp
  have : y = x := congrArg Prod.fst he
  exact this ▸ hy
theorem HIter.run_delete (h : HIter w m r M todo) (x : Hnt) :
    ∃ w', (∀ ty, (Builtin.delete_ #[60, 66] ty #[.map (some m), x.val]).run Try.prog w = .ok (.tuple #[]) w') ∧ HIter w' m r (strike M x) (strike todo x) ∧ Fr [m] w w' ∧ w'.heap.size = w.heap.size := by
  obtain ⟨w', h1, h2, h3, h4⟩ := IterIs.run_delete (ty := 0) h hntLaw under_map x
  refine ⟨w', fun _ => h1, ?_, h3, h4⟩
  rw [erase_unit, erase_unit] at h2
  exact h2
end

theorem length_filter_ne {x : Hnt} : ∀ {M : List Hnt}, M.Nodup → x ∈ M → (strike M x).length + 1 = M.length
  | [], _, h => by simp at h
  | a :: M, hn, h => by
    rw [List.nodup_cons] at hn
    by_cases e : a = x
    · subst e
      have : M.filter (fun y => decide (y ≠ a)) = M := List.filter_eq_self.2 fun y hy => by simp; rintro rfl; exact hn.1 hy
      unfold strike
      rw [List.filter_cons_of_neg (by simp), this]; simp
    · have hx : x ∈ M := by
        rcases List.mem_cons.1 h with h | h
        · exact absurd h.symm e
        · exact h
      have ih := length_filter_ne hn.2 hx
      unfold strike at ih ⊢
      rw [List.filter_cons_of_pos (by simpa using e)]
      simp only [List.length_cons]; omega

/-- What stands once what is below t is forgotten. -/
def dropL (M : List Hnt) (t : Int) : List Hnt := M.filter (fun x => !decide (x.p.t < t))
/-- .. but for what the loop has not come to. -/
def dropTo (M todo : List Hnt) (t : Int) : List Hnt := M.filter (fun x => !decide (x.p.t < t) || decide (x ∈ todo))
theorem dropTo_start (M : List Hnt) (t : Int) : dropTo M M t = M := List.filter_eq_self.2 fun x hx => by simp [hx]
theorem dropTo_end (M : List Hnt) (t : Int) : dropTo M [] t = dropL M t := by unfold dropTo dropL; congr 1; funext x; simp
theorem dropTo_struck {M todo : List Hnt} {t : Int} {x : Hnt} (h : x.p.t < t) : strike (dropTo M todo t) x = dropTo M (strike todo x) t := by
  unfold dropTo strike
  rw [List.filter_filter]
  refine List.filter_congr fun y _ => ?_
  by_cases e : y = x
  · subst e; simp [h]
  · simp [e, List.mem_filter]
theorem dropTo_stays {M todo : List Hnt} {t : Int} {x : Hnt} (h : ¬ x.p.t < t) : dropTo M todo t = dropTo M (strike todo x) t := by
  unfold dropTo strike
  refine List.filter_congr fun y _ => ?_
  by_cases e : y = x
  · subst e; simp [h]
  · simp [e, List.mem_filter]
theorem length_dropTo_le (M todo : List Hnt) (t : Int) : (dropTo M todo t).length ≤ M.length := List.length_filter_le _ _
theorem strike_twice (l : List Hnt) (x : Hnt) : strike (strike l x) x = strike l x := by
  unfold strike
  rw [List.filter_filter]; simp
theorem strike_lt {l : List Hnt} {x : Hnt} (h : x ∈ l) : (strike l x).length < l.length := by
  unfold strike
  rcases Nat.lt_or_eq_of_le (List.length_filter_le (fun y => decide (y ≠ x)) l) with h1 | h1
  · exact h1
  · have := List.length_filter_eq_length_iff.1 h1 x h
    simp at this

def PDrop (b m : Nat) (most : Int) (M M' : List Hnt) (w : World) (e : Ending) (w' : World) : Prop :=
  e = .returned (.int .i64 ((M.length : Int) - M'.length)) ∧ IsHints w' b (some m) most M' ∧ Fr [m] w w'

set_option maxHeartbeats 400000 in
theorem drop_none (t : Int) (w : World) : Calls Try.prog 21 #[.pointer none, .int .i64 t] w fun e w' => e = .returned (.int .i64 0) ∧ w = w' := by
  go_enter Try.func21, Try.ntmps21
  go_wp2
  go_ret
  exact ⟨rfl, rfl⟩

set_option maxRecDepth 100000 in
set_option maxHeartbeats 1600000 in
theorem drop_any (b m : Nat) (most t : Int) (M : List Hnt) (w : World) (h : IsHints w b (some m) most M) (hM : M.length ≤ 100000) :
    Calls Try.prog 21 #[.pointer (some ⟨b, 0, none⟩), .int .i64 t] w (PDrop b m most M (dropL M t) w) := by
  have H := Lib.hid h
  have k1 := h.ref
  have hbl := h.lt
  have hmap := h.some_ m rfl
  have HMP := Lib.hid hmap
  clear h hmap
  go_enter Try.func21, Try.ntmps21
  go_wp2_with (at_range; refine wpList_range_h rfl _ rfl rfl HMP.out ?_; intro w0 hit0 hg0 hs0; go_frame)
  have HG0 := Lib.hid hg0
  clear hg0
  go_loopw [5] (fun u wr => ∃ todo : List Hnt, u = .int .i64 ((M.length : Int) - (dropTo M todo t).length) ∧ Hid (HIter wr m w.heap.size (dropTo M todo t) todo ∧ Fr [m] w wr)) (fun _ wr => wr.rangeLeft m w.heap.size)
  case atStart => exact ⟨M, by rw [dropTo_start]; simp, Lib.hid ⟨by rw [dropTo_start]; exact hit0, HG0.out.fr _⟩⟩
  case round =>
    obtain ⟨todo, rfl, HI⟩ := hrel
    clear hit0
    go_wp2_with (at_next; refine wpList_next_h rfl _ rfl rfl HI.out.1 ?_ ?_)
    · intro h0
      go_wp2_with fail
      go_ret
      subst h0
      rw [dropTo_end] at HI ⊢
      exact ⟨rfl, H.out.turned HI.out.2 HI.out.1.map, HI.out.2⟩
    · intro x w1 hx hit1 hf1 hs1 hent
      have HX := Lib.hid hx
      have HIT1 := Lib.hid hit1
      have HF1 := Lib.hid hf1
      have HS1 := Lib.hid hs1
      clear hx hit1 hf1 hs1
      have hfr : Fr [m] w w1 := HI.out.2.trans HF1.out (fun k hk hlt => by simp at hk; omega)
      have hbm : b ∉ [m] := fun e => by simp at e; exact H.out.apart m rfl e.symm
      have kk1 := (hfr.cell (a := ⟨b, 1, none⟩) hbl hbm).trans k1
      have hbl1 : b < w1.heap.size := Nat.lt_of_lt_of_le hbl hfr.size
      have HFR := Lib.hid hfr
      have hlen := length_dropTo_le M todo t
      obtain ⟨w2, hrun, hit2, hf2, hs2⟩ := HIter.run_delete ((HIT1.out.alloc (.cells #[.string x.p.s, .int .i64 x.p.t, .int .i64 x.p.v, .int .i64 x.p.c, .int .i64 x.p.i, .int .i64 x.p.q, .int .i64 x.n] 66)).drew) x
      have HIT2 := Lib.hid hit2
      have HF2 := Lib.hid hf2
      have HS2 := Lib.hid hs2
      clear hfr hbm hit2 hf2 hs2
      simp only [Hnt.val] at hrun
      go_wp2_with fail
      · go_region
        go_wp2_with fail
        have hxt : x.p.t < t := by assumption
        have hin : x ∈ dropTo M todo t := HI.out.1.sub x HX.out
        have hcnt := length_filter_ne HI.out.1.map.nodup hin
        have hstr := dropTo_struck (M := M) (todo := todo) hxt
        have HSTR := Lib.hid hstr
        have hit3 := HIT2.out
        rw [HSTR.out, strike_twice] at hit3
        rw [HSTR.out] at hcnt
        clear hstr
        go_roundw
        case rel =>
          refine ⟨strike todo x, ?_, Lib.hid ⟨hit3, ?_⟩⟩
          · congr 1; omega
          · exact (((HFR.out.alloc _).drew)).trans' HF2.out
        case measure =>
          rw [hit3.left, HI.out.1.left]
          exact strike_lt HX.out
      · have hxt : ¬ x.p.t < t := by have : t ≤ x.p.t := by assumption
                                     omega
        have hst := dropTo_stays (M := M) (todo := todo) hxt
        have HST := Lib.hid hst
        clear hst
        go_roundw
        case rel =>
          refine ⟨strike todo x, by rw [← HST.out], Lib.hid ⟨?_, HFR.out.alloc _⟩⟩
          rw [← HST.out]
          exact HIT1.out.alloc _
        case measure =>
          rw [(HIT1.out.alloc _).left, HI.out.1.left]
          exact strike_lt HX.out
end Go.Proofs.Ytmlelggakadpdaa
