/-
  append(s, make([]T, n)...), s a row of the call's own and T of one cell: plain laws for the walk. No condition.
-/
import Derived.Test.YtjihhpipdhhjkaaOwn
namespace Go
open Go.RowKit
section
variable {P : Program}
theorem zeroCells_one (z : Value) (n : Nat) : Builtin.zeroCells #[z] n = (List.replicate n z).toArray := by
  apply Array.ext'
  apply List.ext_getElem?
  intro i
  simp only [Builtin.zeroCells, Array.toList_map, List.getElem?_map, Array.toList_range, List.getElem?_range']
  by_cases h : i < n
  · simp [List.getElem?_replicate, h, Nat.mod_one]
  · simp [List.getElem?_replicate, h]
theorem wrap_i64_small (n : Nat) (h : n < 9223372036854775808) : IntKind.i64.wrap (n : Int) = (n : Int) := by rw [IntKind.wrap_i64]; omega
theorem run_append_zeros (w : World) (base : Nat) (t k ty e : TypeId) (i : TypeInfo) (z : Value) (ik : IntKind) (bytes : Nat) (ht : P.underlying t = some (.slice e)) (hk : P.underlying k = some (.int ik)) (hi : P.info? e = some i) (hz : i.zero = some z)
    (hsize : i.size = 1) (hby : i.bytes = bytes) (hzs : z.cells = #[z]) (hz1 : z.oneCell' = true)
    (v : Value) (n : Nat) (xs : List Value) (hown : w.ownsRow base e 1 v n xs) (m : Nat)
    (h63 : n + m ≤ maxLen) (hbytes : (n + m) * bytes ≤ 140737488355328) (hbase : base ≤ w.heap.size) :
    ∃ v' w', (Builtin.append_ #[t, k] ty #[v, .int .i64 (m : Int)]).run P w = .ok v' w' ∧ w'.ownsRow base e 1 v' (n + m) (xs ++ List.replicate m z) ∧ w.grownBy w' v.ownBlock ∧
      (v'.ownBlock = v.ownBlock ∨ v'.ownBlock = some w.heap.size) := by
  subst hby
  have hmm : m * i.bytes ≤ (n + m) * i.bytes := Nat.mul_le_mul_right _ (by omega)
  simp only [maxLen] at h63
  have hlen : (xs ++ List.replicate m z).length = (n + m) * 1 := by rw [List.length_append, hown.1]; simp
  have hwm : IntKind.i64.wrap (m : Int) = m := wrap_i64_small m (by omega)
  have hm0 : ¬ ((m : Int) < 0) := by omega
  have hm1 : ¬ (281474976710656 < (m : Int) * (i.bytes : Int)) := by
    have : ((m * i.bytes : Nat) : Int) ≤ 140737488355328 := by omega
    rw [Int.natCast_mul] at this
    omega
  have happ : (if m = 0 then (pure #[] : Sem (Array Value)) else pure (Builtin.zeroCells #[z] m)) = pure (List.replicate m z).toArray := by
    split
    · subst m; rfl
    · rw [zeroCells_one]
  have grown : ∀ (old : Nat), old < n + m → ∀ (row : Option Nat),
      (w.drew.alloc (.cells (xs.toArray ++ (List.replicate m z).toArray ++ Builtin.zeroCells z.cells (grownCap w (n + m) old e - (n + m))) e)).ownsRow base e 1
        (.slice (some ⟨w.heap.size, 0, none⟩) (n + m) (grownCap w (n + m) old e)) (n + m) (xs ++ List.replicate m z) ∧
      w.grownBy (w.drew.alloc (.cells (xs.toArray ++ (List.replicate m z).toArray ++ Builtin.zeroCells z.cells (grownCap w (n + m) old e - (n + m))) e)) row := by
    intro old ho row
    have hge := grownCap_ge w (n + m) old e
    have hcm : grownCap w (n + m) old e ≤ maxLen := grownCap_le_maxLen w (n + m) old e (by simp only [maxLen]; omega)
    refine ⟨⟨hlen, .inr ⟨w.heap.size, _, _, rfl, hbase, heap_alloc_new w.drew _, hge, hcm, ?_, ?_⟩⟩, ⟨rfl, rfl, rfl, by simp, fun _ hj _ => heap_alloc_old w.drew _ hj⟩⟩
    · have := hown.1
      simp only [Array.size_append, List.size_toArray, size_zeroCells, hzs, List.length_replicate]
      simp at this ⊢
      omega
    · simp only [Array.toList_append, List.append_assoc]
      rw [← List.append_assoc, ← hlen]
      exact List.take_left
  rcases hown.2 with ⟨rfl, rfl⟩ | ⟨g, cap, cur, rfl, hbg, hg, hnc, hcm, hcs, htake⟩
  · have hx : xs = [] := List.eq_nil_of_length_eq_zero (by simpa using hown.1)
    subst hx
    by_cases hm : m = 0
    · subst hm
      refine ⟨.slice none 0 0, w, ?_, World.ownsRow_nil w base e 1, ⟨rfl, rfl, rfl, Nat.le_refl _, fun _ _ _ => rfl⟩, Or.inl rfl⟩
      have h0 : IntKind.i64.wrap 0 = 0 := rfl
      simp [Builtin.append_, run_underlying ht, run_underlying hk, sizeOf, typeInfo, hi, Builtin.lenOf, asInt, asIntOf, h0]
    · have hgr := grown 0 (by omega) (Value.ownBlock (.slice none 0 0))
      simp only [Nat.zero_add, List.nil_append, Array.empty_append] at hgr ⊢
      refine ⟨_, _, ?_, hgr.1, hgr.2, Or.inr rfl⟩
      have h63' : ¬ (9223372036854775807 < (m : Int)) := by omega
      have hn : m ≠ 0 := hm
      have h48' : ¬ (281474976710656 < Builtin.nextslicecap m 0 * i.bytes) := by rw [nextslicecap_zero (by omega)]; omega
      simp [Builtin.append_, run_underlying ht, run_underlying hk, sizeOf, typeInfo, hi, asInt, asIntOf, hwm, hm0, hm1, hn, h63', h48', Question.forced, run_firstCells_none, zeroValue, hz, hzs, hsize, zeroCells_one, newRow, grownCap]
  · by_cases hroom : n + m ≤ cap
    · by_cases hm : m = 0
      · subst hm
        refine ⟨.slice (some ⟨g, 0, none⟩) n cap, w, ?_, ?_, ⟨rfl, rfl, rfl, Nat.le_refl _, fun _ _ _ => rfl⟩, Or.inl rfl⟩
        · have h0 : IntKind.i64.wrap 0 = 0 := rfl
          simp only [Nat.add_zero] at hroom
          simp [Builtin.append_, run_underlying ht, run_underlying hk, sizeOf, typeInfo, hi, asInt, asIntOf, h0, hroom, storeCells]
        · simpa using hown
      · have hst := run_storeCells_at P g n e (List.replicate m z) 0 cur w hg (by simp; omega) (by intro u hu; rw [List.eq_of_mem_replicate hu]; exact hz1)
        simp only [Nat.add_zero] at hst
        refine ⟨.slice (some ⟨g, 0, none⟩) (n + m) cap, w.setRow g (List.take n cur.toList ++ List.replicate m z ++ List.drop (n + (List.replicate m z).length) cur.toList).toArray, ?_, ⟨hlen, .inr ⟨g, cap, _, rfl, hbg, setRow_heap w g cur _ e _ hg, hroom, hcm, ?_, ?_⟩⟩, ⟨rfl, rfl, rfl, by simp, fun k _ hk => setRow_other w g k _ (fun e => hk (by simp [Value.ownBlock, e]))⟩, Or.inl rfl⟩
        · simp [Builtin.append_, run_underlying ht, run_underlying hk, sizeOf, typeInfo, hi, asInt, asIntOf, hwm, hm0, hm1, hm, hroom, zeroValue, hz, hzs, hsize, zeroCells_one, Addr.add_lit]
          simp at hst
          rw [hst]
          rfl
        · simp only [List.size_toArray, List.length_append, List.length_take, List.length_drop, Array.length_toList, List.length_replicate]
          omega
        · rw [Nat.mul_one] at htake
          rw [htake, ← hlen]
          exact List.take_left
    · have hgr := grown cap (by omega) (Value.ownBlock (.slice (some ⟨g, 0, none⟩) n cap))
      refine ⟨_, _, ?_, hgr.1, hgr.2, Or.inr rfl⟩
      have holds : ∀ j u, xs[j]? = some u → w.cell? ((⟨g, 0, none⟩ : Addr).add j) = some u := hown.cells (g := g) rfl
      have hfo := run_firstCells_some (P := P) w.drew 1 n ⟨g, 0, none⟩ n cap xs hown.1 (by simpa using holds)
      have hn : ¬ (n + m ≤ cap) := by omega
      have hm : m ≠ 0 := by omega
      have h63' : ¬ (9223372036854775807 < ((n : Int) + (m : Int))) := by omega
      have h48' : ¬ (281474976710656 < Builtin.nextslicecap (n + m) cap * i.bytes) := by have := growslice_fits (show cap < n + m by omega) hbytes; omega
      simp [Builtin.append_, run_underlying ht, run_underlying hk, sizeOf, typeInfo, hi, asInt, asIntOf, hwm, hm0, hm1, hm, hn, h63', h48', Question.forced, hfo, zeroValue, hz, hzs, hsize, zeroCells_one, newRow, grownCap]
theorem wpList_zeros {w : World} {ops : Array Oper} {rest : List Oper} {o : Oper} {a : Act} {Q : Exit → Act → World → Prop} (hgd : o.guard = none) (s x : Operand) (t k : TypeId)
    (ho : o.op = .call { callee := .builtin .append, args := #[s, x], argTypes := #[t, k] })
    (base : Nat) (e : TypeId) (i : TypeInfo) (z : Value) (ik : IntKind) (bytes : Nat) (ht : P.underlying t = some (.slice e)) (hk : P.underlying k = some (.int ik)) (hi : P.info? e = some i) (hz : i.zero = some z)
    (hsize : i.size = 1) (hby : i.bytes = bytes) (hzs : z.cells = #[z]) (hz1 : z.oneCell' = true)
    (v : Value) (n : Nat) (xs : List Value) (hs : a.eval s = v) (hown : w.ownsRow base e 1 v n xs) (m : Nat) (hx : a.eval x = .int .i64 (m : Int))
    (h63 : n + m ≤ maxLen) (hbytes : (n + m) * bytes ≤ 140737488355328) (hbase : base ≤ w.heap.size)
    (h : ∀ w' A cap, w'.ownsRow base e 1 (.slice A (n + m) cap) (n + m) (xs ++ List.replicate m z) → w.grownBy w' v.ownBlock → ((Value.slice A (n + m) cap).ownBlock = v.ownBlock ∨ (Value.slice A (n + m) cap).ownBlock = some w.heap.size) → wpList P ops Q rest (a.put o.dst (.slice A (n + m) cap)) w') :
    wpList P ops Q (o :: rest) a w := by
  refine wpList_plain hgd fun K hK => ?_
  obtain ⟨v', w', hr, h2, h3, h4⟩ := run_append_zeros (P := P) w base t k o.type e i z ik bytes ht hk hi hz hsize hby hzs hz1 v n xs hown m h63 hbytes hbase
  obtain ⟨A, cap, rfl⟩ := own_shape h2
  unfold Oper.wp execOp
  simp only [ho, resolve, invoke, builtin, Sem.run_bind, Sem.run_pure, Result.andThen_ok, List.map_toArray, List.map_cons, List.map_nil, hs, hx, hr]
  exact hK _ _ (h w' A cap h2 h3 h4)
end
end Go
