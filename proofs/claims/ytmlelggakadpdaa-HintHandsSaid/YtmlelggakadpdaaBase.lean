/-
  Words shared by the walks of this seat: frames between worlds, slices that read as lists of cells, maps that read as lists of pairs, and the laws of the map operations over them. Nothing here speaks of the program.
-/
import Derived.WalkKit
import Derived.WalkSpells
import Derived.WalkLawsBesides
import Derived.Deep.Draws
import Derived.Deep.QuietTactic
import Derived.BigQuiet
import Derived.Sort.Grow
import Derived.Maps.RangeRun
import Derived.Maps.RangeWalk
import Derived.Maps.AppendAt
import Derived.Deep.AppendLies
import Derived.Deep.Fields
import Derived.Laws.StructEq
import Derived.WideKeyRuns
import Derived.MapKept
import Derived.Deep.CutRange
import Derived.Lib.Hide
namespace Go.Proofs.Ytmlelggakadpdaa
open Go.RowKit

/-! ### Frames -/
/-- Of what lay in w, only the blocks of S may have turned. -/
structure Fr (S : List Nat) (w w' : World) : Prop where
  os : w'.os = w.os
  tape : w'.tape = w.tape
  output : w'.output = w.output
  size : w.heap.size ≤ w'.heap.size
  block : ∀ k, k < w.heap.size → k ∉ S → w'.heap[k]? = w.heap[k]?

theorem heap_lt {w : World} {k : Nat} {o : Obj} (h : w.heap[k]? = some o) : k < w.heap.size := (Array.getElem?_eq_some_iff.1 h).1

section
variable {S T : List Nat} {w w1 w2 : World}
theorem Fr.refl (S : List Nat) (w : World) : Fr S w w := ⟨rfl, rfl, rfl, Nat.le_refl _, fun _ _ _ => rfl⟩
theorem Fr.mono (h : Fr S w w1) (hs : ∀ k ∈ S, k < w.heap.size → k ∈ T) : Fr T w w1 :=
  ⟨h.os, h.tape, h.output, h.size, fun k hk hn => h.block k hk (fun hS => hn (hs k hS hk))⟩
theorem Fr.trans (h : Fr S w w1) (h' : Fr T w1 w2) (hs : ∀ k ∈ T, k < w.heap.size → k ∈ S) : Fr S w w2 :=
  ⟨h'.os.trans h.os, h'.tape.trans h.tape, h'.output.trans h.output, Nat.le_trans h.size h'.size,
    fun k hk hn => (h'.block k (Nat.lt_of_lt_of_le hk h.size) (fun hT => hn (hs k hT hk))).trans (h.block k hk hn)⟩
theorem Fr.trans' (h : Fr S w w1) (h' : Fr S w1 w2) : Fr S w w2 := h.trans h' (fun _ h _ => h)
theorem Fr.of_grown {row : Option Nat} (h : w.grownBy w1 row) (hr : ∀ k, row = some k → k < w.heap.size → k ∈ S) : Fr S w w1 :=
  ⟨h.os, h.tape, h.output, h.size, fun k hk hn => h.block k hk (fun e => hn (hr k e.symm hk))⟩
theorem Fr.of_below (h : Below w.heap.size w w1) : Fr S w w1 := ⟨h.os, h.tape, h.output, h.size, fun k hk _ => h.block k hk⟩
theorem Fr.alloc (h : Fr S w w1) (o : Obj) : Fr S w (w1.alloc o) :=
  ⟨h.os, h.tape, h.output, Nat.le_trans h.size (by simp), fun k hk hn => (Below.heap_alloc w1 o k (Nat.lt_of_lt_of_le hk h.size)).trans (h.block k hk hn)⟩
theorem Fr.drew (h : Fr S w w1) : Fr S w w1.drew := ⟨h.os, h.tape, h.output, h.size, h.block⟩
theorem Fr.drewN (h : Fr S w w1) (n : Nat) : Fr S w (w1.drewN n) := ⟨h.os, h.tape, h.output, h.size, h.block⟩
theorem Fr.setCell (h : Fr S w w1) {p : Addr} (hp : p.block < w.heap.size → p.block ∈ S) (u : Value) : Fr S w (w1.setCell p u) :=
  ⟨h.os, h.tape, h.output, by simpa [World.setCell] using h.size, fun k hk hn =>
    (Below.heap_setCell w1 p u k (by rintro rfl; exact hn (hp hk))).trans (h.block k hk hn)⟩
theorem Fr.grow (h : Fr S w w1) (os : Array Obj) : Fr S w (Sort.grow w1 os) :=
  ⟨h.os, h.tape, h.output, by have := h.size; simp; omega, fun k hk hn => (Sort.heap_grow_old w1 os (Nat.lt_of_lt_of_le hk h.size)).trans (h.block k hk hn)⟩
theorem Fr.setBlock (h : Fr S w w1) {b : Nat} (hb : b < w.heap.size → b ∈ S) (o : Obj) : Fr S w (ChangeMaps.setBlock w1 b o) := by
  refine ⟨h.os, h.tape, h.output, by simpa [ChangeMaps.setBlock] using h.size, fun k hk hn => ?_⟩
  rw [← h.block k hk hn]
  have hne : b ≠ k := by rintro rfl; exact hn (hb hk)
  simp [ChangeMaps.setBlock, hne]
theorem Fr.below (h : Fr S w w1) {B : Nat} (hB : B ≤ w.heap.size) (hs : ∀ k ∈ S, B ≤ k) : Below B w w1 :=
  ⟨h.os, h.tape, h.output, h.size, fun k hk => h.block k (by omega) (fun hS => by have := hs k hS; omega)⟩
theorem Fr.at_ (h : Fr S w w1) {k : Nat} {o : Obj} (hk : w.heap[k]? = some o) (hn : k ∉ S) : w1.heap[k]? = some o := (h.block k (heap_lt hk) hn).trans hk
theorem Fr.cell (h : Fr S w w1) {a : Addr} (hk : a.block < w.heap.size) (hn : a.block ∉ S) : w1.cell? a = w.cell? a := World.cell?_of_block (h.block _ hk hn)
theorem Fr.nil (h : Fr [] w w1) : Below w.heap.size w w1 := h.below (Nat.le_refl _) (by simp)
end

/-- The world has drawn, and has new blocks behind it; nothing else has turned. -/
def Grew (w w' : World) : Prop := ∃ (q : Nat) (os : Array Obj), w' = Sort.grow (w.drewN q) os
theorem Grew.refl (w : World) : Grew w w := ⟨0, #[], by rw [Sort.grow_empty]; rfl⟩
theorem Grew.trans {w w1 w2 : World} (h : Grew w w1) (h' : Grew w1 w2) : Grew w w2 := by
  obtain ⟨q, os, rfl⟩ := h
  obtain ⟨q', os', rfl⟩ := h'
  exact ⟨q + q', os ++ os', by
    show Sort.grow (Sort.grow ((w.drewN q).drewN q') os) os' = _
    rw [Sort.grow_grow, World.drewN_drewN]⟩
theorem Grew.alloc {w w1 : World} (h : Grew w w1) (o : Obj) : Grew w (w1.alloc o) := h.trans ⟨0, #[o], by rw [Sort.alloc_eq_grow]; rfl⟩
theorem Grew.drewN {w w1 : World} (h : Grew w w1) (n : Nat) : Grew w (w1.drewN n) := h.trans ⟨n, #[], by rw [Sort.grow_empty]⟩
theorem Grew.drew {w w1 : World} (h : Grew w w1) : Grew w w1.drew := h.drewN 1
theorem Grew.fr {w w1 : World} (h : Grew w w1) (S : List Nat) : Fr S w w1 := by
  obtain ⟨q, os, rfl⟩ := h
  exact ((Fr.refl S w).drewN q).grow os
theorem Grew.size {w w1 : World} (h : Grew w w1) : w.heap.size ≤ w1.heap.size := (h.fr []).size
theorem Grew.at_ {w w1 : World} (h : Grew w w1) {k : Nat} {o : Obj} (hk : w.heap[k]? = some o) : w1.heap[k]? = some o := (h.fr []).at_ hk (by simp)
theorem Grew.cell {w w1 : World} (h : Grew w w1) {a : Addr} (hk : a.block < w.heap.size) : w1.cell? a = w.cell? a := (h.fr []).cell hk (by simp)
theorem Grew.frozen {w w1 : World} (h : Grew w w1) {a : Addr} (hk : a.block < w.heap.size) : w1.frozen? a = w.frozen? a := World.frozen?_of_block ((h.fr []).block _ hk (by simp))

/-! ### Maps: block m is a map whose entries, in the order in which they were laid, are L -/
structure KeyLaw (P : Program) (k : TypeId) {α : Type} (enc : α → Value) : Prop where
  inj : ∀ x y, enc x = enc y → x = y
  check : ∀ x em w, (Instr.checkKey em 10000 k (enc x)).run P w = .ok () w
  find : ∀ x (es : List MapEntry) (w : World), (∀ e ∈ es, ∃ y, e.key = enc y) →
    ((Instr.findKey k (enc x) es).run P w = .ok none w ∧ ∀ e ∈ es, e.key ≠ enc x) ∨
    ∃ j e, es[j]? = some e ∧ e.key = enc x ∧ (Instr.findKey k (enc x) es).run P w = .ok (some (j, e.val)) w
  same : ∀ x, Instr.sameBits 10000 (enc x) (enc x) = true

def MapIs {α β : Type} (enc : α → Value) (encV : β → Value) (w : World) (m : Nat) (L : List (α × β)) : Prop :=
  ∃ es clk, w.heap[m]? = some (.map es clk) ∧ es.toList.map (fun e => (e.key, e.val)) = L.map (fun p => (enc p.1, encV p.2)) ∧
    (L.map (·.1)).Nodup ∧ (es.toList.map (·.born)).Pairwise (· < ·) ∧ ∀ e ∈ es.toList, e.born < clk

section
variable {P : Program} {α β : Type} {enc : α → Value} {encV : β → Value} {w w1 : World} {m : Nat} {L : List (α × β)} {k : TypeId}

theorem MapIs.lt (h : MapIs enc encV w m L) : m < w.heap.size := by
  obtain ⟨es, clk, hb, _⟩ := h
  exact heap_lt hb
theorem MapIs.kept (h : MapIs enc encV w m L) (hk : w1.heap[m]? = w.heap[m]?) : MapIs enc encV w1 m L := by
  obtain ⟨es, clk, hb, r⟩ := h
  exact ⟨es, clk, hk.trans hb, r⟩
theorem MapIs.fr {S : List Nat} (h : MapIs enc encV w m L) (hf : Fr S w w1) (hn : m ∉ S) : MapIs enc encV w1 m L := h.kept (hf.block m h.lt hn)
theorem MapIs.grew (h : MapIs enc encV w m L) (hf : Grew w w1) : MapIs enc encV w1 m L := h.fr (hf.fr []) (by simp)
theorem MapIs.alloc (h : MapIs enc encV w m L) (o : Obj) : MapIs enc encV (w.alloc o) m L := h.fr ((Fr.refl [] w).alloc o) (by simp)
theorem MapIs.drewN (h : MapIs enc encV w m L) (n : Nat) : MapIs enc encV (w.drewN n) m L := h
theorem MapIs.drew (h : MapIs enc encV w m L) : MapIs enc encV w.drew m L := h
theorem MapIs.made (w : World) : MapIs enc encV (w.alloc (.map #[] 0)) w.heap.size [] :=
  ⟨#[], 0, (MapKept.heap_alloc w _).1, by simp, by simp, by simp, by simp⟩
theorem MapIs.run_len (h : MapIs enc encV w m L) {t ty : TypeId} (ht : P.underlying t = some (.map (P.mapKeyOf t) (P.mapElemOf t))) :
    (Builtin.len_ #[t] ty #[.map (some m)]).run P w = .ok (.int .i64 L.length) w := by
  obtain ⟨es, clk, hb, hp, _⟩ := h
  rw [run_len_map w t ty m es clk ht hb]
  have : es.size = L.length := by have := congrArg List.length hp; simpa using this
  rw [this]; rfl

theorem keys_of {es : Array MapEntry} (hp : es.toList.map (fun e => (e.key, e.val)) = L.map (fun p => (enc p.1, encV p.2))) : ∀ e ∈ es.toList, ∃ y, e.key = enc y := by
  intro e he
  have : (e.key, e.val) ∈ L.map (fun p => (enc p.1, encV p.2)) := by rw [← hp]; exact List.mem_map.2 ⟨e, he, rfl⟩
  obtain ⟨p, _, hpe⟩ := List.mem_map.1 this
  exact ⟨p.1, (congrArg Prod.fst hpe).symm⟩

theorem pair_at {es : Array MapEntry} (hp : es.toList.map (fun e => (e.key, e.val)) = L.map (fun p => (enc p.1, encV p.2))) {j : Nat} {e : MapEntry} (hj : es.toList[j]? = some e) :
    ∃ p, L[j]? = some p ∧ e.key = enc p.1 ∧ e.val = encV p.2 := by
  have h := congrArg (fun l => l[j]?) hp
  simp only [List.getElem?_map, hj, Option.map_some] at h
  cases hL : L[j]? with
  | none => simp [hL] at h
  | some p => simp [hL] at h; exact ⟨p, rfl, h.1, h.2⟩

variable [DecidableEq α]

/-- What the map holds at x. -/
def look (L : List (α × β)) (x : α) : Option β := (L.find? (fun p => decide (p.1 = x))).map (·.2)

theorem look_some_of {j : Nat} {p : α × β} (hn : (L.map (·.1)).Nodup) (hj : L[j]? = some p) : look L p.1 = some p.2 := by
  unfold look
  induction L generalizing j with
  | nil => simp at hj
  | cons q r ih =>
    rw [List.map_cons, List.nodup_cons] at hn
    cases j with
    | zero => simp at hj; subst hj; simp
    | succ j =>
      have hj' : r[j]? = some p := by simpa using hj
      have hne : q.1 ≠ p.1 := fun e => hn.1 (e ▸ List.mem_map.2 ⟨p, List.mem_of_getElem? hj', rfl⟩)
      simp only [List.find?_cons, hne, decide_false]
      exact ih hn.2 hj'

theorem look_none_iff {x : α} : look L x = none ↔ ∀ p ∈ L, p.1 ≠ x := by
  unfold look; simp

theorem MapIs.run_find (h : MapIs enc encV w m L) (K : KeyLaw P k enc) (x : α) : ∃ es clk, w.heap[m]? = some (.map es clk) ∧ es.toList.map (fun e => (e.key, e.val)) = L.map (fun p => (enc p.1, encV p.2)) ∧
    (L.map (·.1)).Nodup ∧ (es.toList.map (·.born)).Pairwise (· < ·) ∧ (∀ e ∈ es.toList, e.born < clk) ∧
    ((look L x = none ∧ (∀ p ∈ L, p.1 ≠ x) ∧ ∀ w : World, (Instr.findKey k (enc x) es.toList).run P w = .ok none w) ∨
     ∃ j e p, es.toList[j]? = some e ∧ L[j]? = some p ∧ p.1 = x ∧ e.key = enc x ∧ e.val = encV p.2 ∧ look L x = some p.2 ∧ ∀ w : World, (Instr.findKey k (enc x) es.toList).run P w = .ok (some (j, e.val)) w) := by
  obtain ⟨es, clk, hb, hp, hn, hs, hc⟩ := h
  refine ⟨es, clk, hb, hp, hn, hs, hc, ?_⟩
  have hk := keys_of hp
  rcases K.find x es.toList w hk with ⟨_, h2⟩ | ⟨j, e, hj, he, _⟩
  · have hall : ∀ p ∈ L, p.1 ≠ x := by
      intro p hpL hpx
      have : (enc p.1, encV p.2) ∈ es.toList.map (fun e => (e.key, e.val)) := by rw [hp]; exact List.mem_map.2 ⟨p, hpL, rfl⟩
      obtain ⟨e, he, hee⟩ := List.mem_map.1 this
      exact h2 e he (by have := congrArg Prod.fst hee; simp at this; rw [this, hpx])
    refine .inl ⟨look_none_iff.2 hall, hall, fun w' => ?_⟩
    rcases K.find x es.toList w' hk with ⟨h1, _⟩ | ⟨j, e, hj, he, _⟩
    · exact h1
    · exact absurd he (h2 e (List.mem_of_getElem? hj))
  · obtain ⟨p, hL, hke, hve⟩ := pair_at hp hj
    have hpx : p.1 = x := K.inj _ _ (hke.symm.trans he)
    refine .inr ⟨j, e, p, hj, hL, hpx, he, hve, hpx ▸ look_some_of hn hL, fun w' => ?_⟩
    rcases K.find x es.toList w' hk with ⟨_, h2⟩ | ⟨j', e', hj', he', hr⟩
    · exact absurd he (h2 e (List.mem_of_getElem? hj))
    · obtain ⟨p', hL', hke', _⟩ := pair_at hp hj'
      have hpx' : p'.1 = x := K.inj _ _ (hke'.symm.trans he')
      have hjj : j' = j := by
        have a1 : (L.map (·.1))[j']? = some x := by simp [hL', hpx']
        have a2 : (L.map (·.1))[j]? = some x := by simp [hL, hpx]
        exact (List.getElem?_inj (by simpa using (List.getElem?_eq_some_iff.1 hL').1) hn).1 (a1.trans a2.symm)
      subst hjj
      rw [hj] at hj'
      cases hj'
      exact hr

theorem MapIs.run_lookup (h : MapIs enc encV w m L) (K : KeyLaw P k enc) {t e : TypeId} (ht : P.underlying t = some (.map k e)) {z : Value} (hz : (zeroValue e).run P w = .ok z w) (x : α) :
    (Instr.lookup t (.map (some m)) (enc x) false).run P w = .ok (((look L x).map encV).getD z) w := by
  obtain ⟨es, clk, hb, _, _, _, _, hf⟩ := h.run_find K x
  have hcheck := K.check x es.isEmpty w
  rcases hf with ⟨hl, _, hr⟩ | ⟨j, e, p, _, _, _, _, hv, hl, hr⟩
  · simp [Instr.lookup, run_underlying ht, MapKept.run_getObj_map hb, Result.andThen, hcheck, hr w, hz, hl]
  · simp [Instr.lookup, run_underlying ht, MapKept.run_getObj_map hb, Result.andThen, hcheck, hr w, hl, hv]

theorem MapIs.run_lookup_ok (h : MapIs enc encV w m L) (K : KeyLaw P k enc) {t e : TypeId} (ht : P.underlying t = some (.map k e)) {z : Value} (hz : (zeroValue e).run P w = .ok z w) (x : α) :
    (Instr.lookup t (.map (some m)) (enc x) true).run P w = .ok (.tuple #[((look L x).map encV).getD z, .bool (look L x).isSome]) w := by
  obtain ⟨es, clk, hb, _, _, _, _, hf⟩ := h.run_find K x
  have hcheck := K.check x es.isEmpty w
  rcases hf with ⟨hl, _, hr⟩ | ⟨j, e, p, _, _, _, _, hv, hl, hr⟩
  · simp [Instr.lookup, run_underlying ht, MapKept.run_getObj_map hb, Result.andThen, hcheck, hr w, hz, hl]
  · simp [Instr.lookup, run_underlying ht, MapKept.run_getObj_map hb, Result.andThen, hcheck, hr w, hl, hv]

/-- m[x] = v -/
def put (L : List (α × β)) (x : α) (v : β) : List (α × β) := if (look L x).isSome then L.map (fun p => if p.1 = x then (x, v) else p) else L ++ [(x, v)]

theorem keys_put (L : List (α × β)) (x : α) (v : β) : (put L x v).map (·.1) = if (look L x).isSome then L.map (·.1) else L.map (·.1) ++ [x] := by
  unfold put
  split
  · rw [List.map_map]
    refine List.map_congr_left fun p _ => ?_
    simp only [Function.comp]
    split <;> simp_all
  · simp

theorem MapIs.run_update (h : MapIs enc encV w m L) (K : KeyLaw P k enc) {t e : TypeId} (ht : P.underlying t = some (.map k e)) (x : α) (v : β) :
    ∃ w', (Instr.mapUpdate t (.map (some m)) (enc x) (encV v)).run P w = .ok () w' ∧ MapIs enc encV w' m (put L x v) ∧ Fr [m] w w' ∧ w'.heap.size = w.heap.size := by
  obtain ⟨es, clk, hb, hp, hn, hs, hc, hf⟩ := h.run_find K x
  have hcheck := K.check x false w
  rcases hf with ⟨hl, hall, hr⟩ | ⟨j, e, p, hj, hL, hpx, hke, hv, hl, hr⟩
  · refine ⟨ChangeMaps.setBlock w m (.map (es.push { key := enc x, val := encV v, born := clk }) (clk + 1)), ?_, ?_, (Fr.refl [m] w).setBlock (by simp) _, by simp [ChangeMaps.setBlock]⟩
    · simp [Instr.mapUpdate, run_underlying ht, MapKept.run_getObj_map hb, Result.andThen, hcheck, hr w, MapKept.run_setObj_map _ hb, ChangeMaps.setBlock]
    · refine ⟨_, _, ChangeMaps.heap_setBlock_same hb _, ?_, ?_, ?_, ?_⟩
      · simp [put, hl, hp]
      · rw [keys_put]; simp [hl, List.nodup_append, hn]; exact fun y b hb e => hall _ hb e
      · simp [List.pairwise_append, hs]; exact fun a ha => hc a (by simpa using ha)
      · intro a ha
        rcases (by simpa using ha : a ∈ es ∨ a = _) with ha | rfl
        · exact Nat.lt_succ_of_lt (hc a (by simpa using ha))
        · exact Nat.lt_succ_self _
  · have hjl : j < es.size := by simpa using (List.getElem?_eq_some_iff.1 hj).1
    have hje : es[j]? = some e := by simpa using hj
    have hk0 : ((es[j]?).map (·.key)).getD (enc x) = enc x := by simp [hje, hke]
    refine ⟨ChangeMaps.setBlock w m (.map (es.modify j fun e => { e with key := enc x, val := encV v }) clk), ?_, ?_, (Fr.refl [m] w).setBlock (by simp) _, by simp [ChangeMaps.setBlock]⟩
    · simp [Instr.mapUpdate, run_underlying ht, MapKept.run_getObj_map hb, Result.andThen, hcheck, hr w, Instr.keyThatStays, hje, hke, K.same x, MapKept.run_setObj_map _ hb, ChangeMaps.setBlock]
    · refine ⟨_, _, ChangeMaps.heap_setBlock_same hb _, ?_, ?_, ?_, ?_⟩
      · apply List.ext_getElem?
        intro i
        have hpi := congrArg (fun l => l[i]?) hp
        simp only [List.getElem?_map, Array.getElem?_toList, Array.getElem?_modify, put, hl, Option.isSome_some, if_true] at hpi ⊢
        by_cases hij : j = i
        · subst hij
          simp [hje, hL, hpx]
        · rw [if_neg hij, hpi]
          cases hLi : L[i]? with
          | none => simp
          | some q =>
            have hq : q.1 ≠ x := fun hqx => hij (by
              have a1 : (L.map (·.1))[j]? = some x := by simp [hL, hpx]
              have a2 : (L.map (·.1))[i]? = some x := by simp [hLi, hqx]
              exact (List.getElem?_inj (by simpa using (List.getElem?_eq_some_iff.1 hL).1) hn).1 (a1.trans a2.symm))
            simp [hq]
      · rw [keys_put]; simpa [hl] using hn
      · have : (es.modify j fun e => { e with key := enc x, val := encV v }).toList.map (·.born) = es.toList.map (·.born) := by
          apply List.ext_getElem?
          intro i
          simp only [List.getElem?_map, Array.getElem?_toList, Array.getElem?_modify]
          split
          · cases es[i]? <;> rfl
          · rfl
        rw [this]; exact hs
      · intro a ha
        obtain ⟨i, hi⟩ := List.getElem?_of_mem ha
        simp only [Array.getElem?_toList, Array.getElem?_modify] at hi
        split at hi
        · cases hei : es[i]? with
          | none => simp [hei] at hi
          | some e0 => simp [hei] at hi; subst hi; exact hc e0 (by simpa using Array.mem_of_getElem? hei)
        · exact hc a (by simpa using Array.mem_of_getElem? hi)

/-- delete(m, x) -/
def erase (L : List (α × β)) (x : α) : List (α × β) := L.filter (fun p => decide (p.1 ≠ x))

theorem eraseIdx_eq_filter {γ : Type} (f : γ → Bool) : ∀ (l : List γ) (j : Nat) (c : γ), l[j]? = some c → f c = false → (∀ i d, i ≠ j → l[i]? = some d → f d = true) → l.eraseIdx j = l.filter f
  | [], j, c, hj, _, _ => by simp at hj
  | a :: r, 0, c, hj, hc, hne => by
    simp at hj; subst hj
    simp only [List.eraseIdx_zero, List.tail_cons, List.filter_cons, hc, Bool.false_eq_true, if_false]
    refine (List.filter_eq_self.2 fun d hd => ?_).symm
    obtain ⟨i, hi⟩ := List.getElem?_of_mem hd
    exact hne (i + 1) d (by omega) (by simpa using hi)
  | a :: r, j + 1, c, hj, hc, hne => by
    have ha : f a = true := hne 0 a (by omega) rfl
    simp only [List.eraseIdx_cons_succ, List.filter_cons, ha, if_true]
    rw [eraseIdx_eq_filter f r j c (by simpa using hj) hc (fun i d hij hi => hne (i + 1) d (by omega) (by simpa using hi))]

theorem mem_toList_eraseIdx {es : Array MapEntry} {j : Nat} : (es.eraseIdxIfInBounds j).toList = es.toList.eraseIdx j := by
  unfold Array.eraseIdxIfInBounds
  split
  · simp
  · rename_i h; rw [List.eraseIdx_of_length_le (by simpa using h)]

theorem MapIs.run_delete (h : MapIs enc encV w m L) (K : KeyLaw P k enc) {t e ty : TypeId} (ht : P.underlying t = some (.map k e)) (x : α) :
    ∃ w', (Builtin.delete_ #[t, k] ty #[.map (some m), enc x]).run P w = .ok (.tuple #[]) w' ∧ MapIs enc encV w' m (erase L x) ∧ Fr [m] w w' ∧ w'.heap.size = w.heap.size := by
  obtain ⟨es, clk, hb, hp, hn, hs, hc, hf⟩ := h.run_find K x
  have hcheck := K.check x es.isEmpty w
  rcases hf with ⟨hl, hall, hr⟩ | ⟨j, e, p, hj, hL, hpx, hke, hv, hl, hr⟩
  · refine ⟨ChangeMaps.setBlock w m (.map es clk), ?_, ?_, (Fr.refl [m] w).setBlock (by simp) _, by simp [ChangeMaps.setBlock]⟩
    · simp [Builtin.delete_, run_underlying ht, MapKept.run_getObj_map hb, Result.andThen, hcheck, hr w, MapKept.run_setObj_map _ hb, ChangeMaps.setBlock]
    · have : erase L x = L := List.filter_eq_self.2 fun p hp => by simpa using hall p hp
      rw [this]
      exact ⟨_, _, ChangeMaps.heap_setBlock_same hb _, hp, hn, hs, hc⟩
  · refine ⟨ChangeMaps.setBlock w m (.map (es.eraseIdxIfInBounds j) clk), ?_, ?_, (Fr.refl [m] w).setBlock (by simp) _, by simp [ChangeMaps.setBlock]⟩
    · simp [Builtin.delete_, run_underlying ht, MapKept.run_getObj_map hb, Result.andThen, hcheck, hr w, MapKept.run_setObj_map _ hb, ChangeMaps.setBlock]
    · have he : L.eraseIdx j = erase L x := eraseIdx_eq_filter _ L j p hL (by simp [hpx]) fun i d hij hi => by
        have hne : d.1 ≠ x := fun hdx => hij (by
          have a1 : (L.map (·.1))[j]? = some x := by simp [hL, hpx]
          have a2 : (L.map (·.1))[i]? = some x := by simp [hi, hdx]
          exact ((List.getElem?_inj (by simpa using (List.getElem?_eq_some_iff.1 hL).1) hn).1 (a1.trans a2.symm)).symm)
        simp [hne]
      refine ⟨_, _, ChangeMaps.heap_setBlock_same hb _, ?_, ?_, ?_, ?_⟩
      · rw [mem_toList_eraseIdx, ChangeMaps.map_eraseIdx, hp, ← ChangeMaps.map_eraseIdx, he]
      · exact List.Nodup.sublist (List.Sublist.map _ (List.filter_sublist)) hn
      · rw [mem_toList_eraseIdx]
        exact List.Pairwise.sublist (List.Sublist.map _ (List.eraseIdx_sublist _ _)) hs
      · intro a ha
        rw [mem_toList_eraseIdx] at ha
        exact hc a (List.mem_of_mem_eraseIdx ha)
end
end Go.Proofs.Ytmlelggakadpdaa
