/-
  'a[x], b[y] = u, v' on maps from ints to ints: an entry is sought first, and stored to later. Plain laws over any program. No condition.
-/
import Derived.Test.YtdeejiiegmddaaaMapI
import Derived.WideKeyEntry
namespace Go
open Go.RowKit Go.Maps Go.ChangeShapes Go.WideShapes Go.MapKept Go.ChangeMaps Go.WideElems
/-- Sought, then stored to: as one store. -/
theorem entry_two {H : Type} {P : Program} {t k e : TypeId} {R : Value → Option (DataW H × List MemPlace)} (K : Keyed P k) (ht : P.underlying t = some (.map k e)) {w : World} {b : Nat} {es : Array MapEntry} {clock : Nat} {z : Value} (hz : (zeroValue e).run P w = .ok z w)
    (hb : w.heap[b]? = some (.map es clock)) (F : Fit P k R es clock) {x : Value} {kl : Lit} (hx : keyOf P k x = some kl) :
    ∃ (v0 : Value) (n : Nat) (es1 : Array MapEntry) (c1 : Nat), (Instr.mapEntry t (.map (some b)) x).run P w = .ok (.tuple #[v0, .int .i64 (n : Int)]) (setBlock w b (.map es1 c1)) ∧
      ∀ (w2 : World) (y : Value), w2.heap[b]? = some (.map es1 c1) → ∃ es2 c2, (Instr.entryStore t (.map (some b)) (.int .i64 (n : Int)) y).run P w2 = .ok () (setBlock w2 b (.map es2 c2)) ∧ (Instr.mapUpdate t (.map (some b)) x y).run P w = .ok () (setBlock w b (.map es2 c2)) := by
  have hst := F.stamped
  obtain ⟨g1, g2, _⟩ := hst
  have hund := run_underlying (w := w) ht
  have hget := MapKept.run_getObj_map (P := P) hb
  have hchk := K.check w false hx
  obtain hf | ⟨j, en, hf, hj, hjx⟩ := K.find w hx es.toList F.keys
  · -- a new entry
    refine ⟨z, clock, es.push { key := x, val := z, born := clock }, clock + 1, ?_, fun w2 y hw2 => ⟨es.push { key := x, val := y, born := clock }, clock + 1, ?_, ?_⟩⟩
    · simp [Instr.mapEntry, hund, hget, hchk, hf.1, hz, MapKept.run_setObj_map _ hb, Result.andThen, setBlock, goInt]
    · have hnd : ((es.push { key := x, val := z, born := clock }).toList.map (·.born)).Nodup := by
        rw [Array.toList_push, List.map_append, List.nodup_append]
        refine ⟨g2, by simp, ?_⟩
        intro p hp q hq hpq
        obtain ⟨m, hm, rfl⟩ := List.mem_map.1 hp
        have := g1 m hm
        simp at hq
        omega
      have hat : (es.push { key := x, val := z, born := clock }).toList[es.size]? = some { key := x, val := z, born := clock } := by simp
      have hidx := findIdx_born hnd hat
      rw [← findIdx_arr] at hidx
      have hm : (es.push { key := x, val := z, born := clock }).modify es.size (fun q => { q with val := y }) = es.push { key := x, val := y, born := clock } := by
        apply Array.ext'
        simp only [Array.toList_modify, Array.toList_push]
        exact modify_last _ _ _
      simp [Instr.entryStore, MapKept.run_getObj_map hw2, asInt, asIntOf, hidx, hm, MapKept.run_setObj_map _ hw2, Result.andThen, setBlock]
    · simp [Instr.mapUpdate, hund, hget, hchk, hf.1, MapKept.run_setObj_map _ hb, Result.andThen, setBlock]
  · -- one that is there
    have hja : es[j]? = some en := by simpa using hj
    have hstay := K.stays w hx
    have hkeep : es.modify j (fun q => { q with key := x }) = es := by
      apply Array.ext'
      rw [Array.toList_modify, modify_eq_set _ _ _ _ hj]
      refine set_self _ _ _ ?_
      rw [hj, ← hjx]
    refine ⟨en.val, en.born, es, clock, ?_, fun w2 y hw2 => ⟨es.modify j fun q => { q with val := y }, clock, ?_, ?_⟩⟩
    · simp [Instr.mapEntry, hund, hget, hchk, hf, hja, hjx, hstay, hkeep, MapKept.run_setObj_map _ hb, Result.andThen, setBlock, goInt]
    · have hidx := findIdx_born g2 hj
      rw [← findIdx_arr] at hidx
      simp [Instr.entryStore, MapKept.run_getObj_map hw2, asInt, asIntOf, hidx, MapKept.run_setObj_map _ hw2, Result.andThen, setBlock]
    · have hm : es.modify j (fun q => { q with key := x, val := y }) = es.modify j (fun q => { q with val := y }) := by
        apply Array.ext'
        rw [Array.toList_modify, Array.toList_modify, modify_eq_set _ _ _ _ hj, modify_eq_set _ _ _ _ hj, ← hjx]
      simp [Instr.mapUpdate, hund, hget, hchk, hf, hja, hjx, hstay, hm, MapKept.run_setObj_map _ hb, Result.andThen, setBlock]
section
variable {P : Program} {t m : TypeId} {w : World} {b c : Nat} {f : Int → Option Int} {x : Int}
theorem setBlock_grown {es es1 : Array MapEntry} {c0 c1 : Nat} (hb : w.heap[b]? = some (.map es c0)) : w.grownBy (setBlock w b (.map es1 c1)) (some b) :=
  ⟨rfl, rfl, rfl, by simp [setBlock], fun i _ hi => heap_setBlock_other hb _ (fun e => hi (by rw [e]))⟩
/-- The entry is sought; what is stored to it later makes the map another function. -/
theorem MapI.entry (h : MapI P t w b f c) (hm : P.underlying m = some (.map t t)) (ht : P.underlying t = some (.int .i64)) (hz : (zeroValue t).run P w = .ok (.int .i64 0) w) (hx : I64 x) (hc : c < maxLen) :
    ∃ (v0 : Value) (n : Nat) (w1 : World), (Instr.mapEntry m (.map (some b)) (.int .i64 x)).run P w = .ok (.tuple #[v0, .int .i64 (n : Int)]) w1 ∧ w.grownBy w1 (some b) ∧
      ∀ (w2 : World) (y : Int), w2.heap[b]? = w1.heap[b]? → I64 y → ∃ w3, (Instr.entryStore m (.map (some b)) (.int .i64 (n : Int)) (.int .i64 y)).run P w2 = .ok () w3 ∧ w2.grownBy w3 (some b) ∧
        MapI P t w3 b (upd f x (some y)) (if (f x).isSome then c else c + 1) := by
  have h0 := h
  obtain ⟨D, ⟨es, clock, hb, F, hs, hD⟩, h2, h3⟩ := h
  obtain ⟨v0, n, es1, c1, r1, r2⟩ := entry_two (int_keyed ht) hm hz hb F (keyOf_int_mk ht (wf_of_i64 hx))
  refine ⟨v0, n, _, r1, setBlock_grown hb, fun w2 y hw2 hy => ?_⟩
  have hb1 : w2.heap[b]? = some (.map es1 c1) := hw2.trans (heap_setBlock_same hb _)
  obtain ⟨es2, c2, s1, s2⟩ := r2 w2 (.int .i64 y) hb1
  obtain ⟨w', u1, u2, _⟩ := h0.store hm ht hx hy hc
  rw [s2] at u1
  injection u1 with _ u1
  subst u1
  refine ⟨_, s1, setBlock_grown hb1, u2.block ?_⟩
  rw [heap_setBlock_same hb1, heap_setBlock_same hb]
end
end Go
