/-
  Layer 25: slices.DeleteFunc over a task's waits. No condition.
-/
import Derived.Test.YtdeejiiegmddaaaStG
import Derived.Test.YtdeejiiegmddaaaOwnCut
import Derived.Lib.SliceRun
import Derived.Deep.CutRange
namespace Go.Proofs.Ytdeejiiegmddaaa
open Go Go.RowKit
/-- 'clear(s)', s of n > 0 elements of a row of the call's own, from one on. -/
theorem run_clear_own {P : Program} {w : World} {B g cap n0 i c : Nat} {e : TypeId} {size : Nat} {xs : List Value} (hown : w.ownsRow B e size (.slice (some ⟨g, 0, none⟩) n0 cap) n0 xs) (t ty : TypeId) (z : Value) (ht : P.underlying t = some (.slice e)) (hv : ∀ w, (zeroValue e).run P w = .ok z w) (hz : z.cells.size = size) (h1 : ∀ u ∈ (Builtin.zeroCells z.cells (n0 - i)).toList, u.oneCell' = true) (hi : i < n0) :
    (Builtin.clear_ #[t] ty #[.slice (some ⟨g, i * size, none⟩) (n0 - i) c]).run P w = .ok (.tuple #[]) (w.setCells g (i * size) (Builtin.zeroCells z.cells (n0 - i)).toList) := by
  have hl : (Builtin.zeroCells z.cells (n0 - i)).toList.length = (n0 - i) * size := by rw [← hz]; simp [Builtin.zeroCells]
  have hm : i * size + (n0 - i) * size = n0 * size := by rw [← Nat.add_mul]; congr 1; omega
  have hst := run_storeCells_cells (P := P) g (i * size) (Builtin.zeroCells z.cells (n0 - i)).toList 0 w
    (fun j hj => by rw [hown.cellAt _ (by omega), List.getElem?_eq_getElem (by rw [hown.1]; omega)]; rfl) (fun j hj => hown.frozenAt _) h1
  simp only [Nat.add_zero] at hst
  obtain ⟨m, hm2⟩ : ∃ m, n0 - i = m + 1 := ⟨n0 - i - 1, by omega⟩
  rw [hm2] at hst ⊢
  simp [Builtin.clear_, run_underlying ht, hv, hst]
theorem zero_wait : ∀ w, (zeroValue tWa).run Try.prog w = .ok (.agg #[.int .i64 0, .int .u64 0]) w := fun _ => by kernel_rfl
/-- What is left. -/
def leftF (e : Ev) (L : List (Int × Int)) : List (Int × Int) := L.filter (fun x => !delF e x)
theorem leftF_le (e : Ev) (L : List (Int × Int)) : (leftF e L).length ≤ L.length := List.length_filter_le _ _
theorem left_none {e : Ev} {L : List (Int × Int)} (h : ∀ j, j < L.length → delF e (waA L j) = false) : leftF e L = L := by
  refine List.filter_eq_self.2 fun x hx => ?_
  obtain ⟨i, hi, rfl⟩ := List.mem_iff_getElem.1 hx
  have := h i hi
  simp only [waA, List.getElem?_eq_getElem hi, Option.getD_some] at this
  simp [this]
theorem left_step {e : Ev} {L : List (Int × Int)} {k : Nat} (hk : k < L.length) : leftF e (L.take (k + 1)) = leftF e (L.take k) ++ (if delF e (waA L k) then [] else [waA L k]) := by
  have h1 : L.take (k + 1) = L.take k ++ [waA L k] := by
    rw [List.take_add_one, List.getElem?_eq_getElem hk]
    simp [waA, List.getElem?_eq_getElem hk]
  rw [h1]
  unfold leftF
  rw [List.filter_append]
  congr 1
  cases hd : delF e (waA L k) <;> simp [hd]
theorem own_keep {w w' : World} {F : Nat → Prop} {B : Nat} {e : TypeId} {size n : Nat} {v : Value} {xs : List Value} (h : w.ownsRow B e size v n xs) (hk : Kept F w w') (hF : ∀ g, v.ownBlock = some g → ¬ F g) : w'.ownsRow B e size v n xs := by
  refine ⟨h.1, ?_⟩
  rcases h.2 with h1 | ⟨g, cap, cur, hv, hg, hh, hr⟩
  · exact .inl h1
  · have hlt : g < w.heap.size := (Array.getElem?_eq_some_iff.1 hh).1
    exact .inr ⟨g, cap, cur, hv, hg, by rw [hk.block g hlt (hF g (by rw [hv]; rfl))]; exact hh, hr⟩
theorem setL_take {xs vs : List Value} {o : Nat} (h : o + vs.length ≤ xs.length) : (setL xs o vs).take o = xs.take o := by
  apply List.ext_getElem?
  intro j
  rw [List.getElem?_take, List.getElem?_take]
  by_cases hj : j < o
  · rw [if_pos hj, if_pos hj, setL_get _ _ _ h, if_neg (by omega)]
  · rw [if_neg hj, if_neg hj]
/-- Between two rounds. -/
structure DelAt (w wr : World) (be br b g B n c : Nat) (e : Ev) (t : Ty) (v : Value) (L : List (Int × Int)) (i j : Nat) (X : List (Int × Int)) : Prop where
  lt : i < j
  len : i = (leftF e (L.take j)).length
  xl : X.length = n
  fst : X.take i = leftF e (L.take j)
  rest : X.drop j = L.drop j
  at_ : OvAt wr be br b e (goK e t L j) v
  own : wr.ownsRow B tWa 2 (.slice (some ⟨g, 0, none⟩) n c) n (tab waV X)
  kept : Kept (fun k => k = b ∨ k = g) w wr
theorem DelAt.nth {w wr : World} {be br b g B n c : Nat} {e : Ev} {t : Ty} {v : Value} {L X : List (Int × Int)} {i j : Nat} (h : DelAt w wr be br b g B n c e t v L i j X) (hL : L.length = n) (hj : j < n) : waA X j = waA L j := by
  have := congrArg (fun l => l[0]?) h.rest
  simp only [List.getElem?_drop, Nat.add_zero] at this
  unfold waA
  rw [this]
set_option maxRecDepth 100000 in
set_option maxHeartbeats 4000000 in
theorem Delete_any (be br b : Nat) (e : Ev) (t : Ty) (v : Value) (L : List (Int × Int)) (h1 : U64 e.time) (h2 : ∀ k, U64 (waA L k).2) (h3 : U64 t.wt) (B : Nat) (A : Option Addr) (n c : Nat) (en : L.length = n) (hn : n ≤ maxLen) (w : World) (h : OvAt w be br b e t v) (ho : w.ownsRow B tWa 2 (.slice A n c) n (tab waV L)) :
    Calls Try.prog 30 #[.slice A n c, .func (.func 31) #[] #[.pointer (some ⟨be, 0, none⟩), .pointer (some ⟨br, 0, none⟩)]] w
      (fun en w' => en = .returned (.slice A (leftF e L).length c) ∧ OvAt w' be br b e (goK e t L n) v ∧ w'.ownsRow B tWa 2 (.slice A (leftF e L).length c) (leftF e L).length (tab waV (leftF e L)) ∧ Kept (fun k => k = b ∨ ∃ o, A = some ⟨k, o, none⟩) w w') := by
  have hA : ∀ g o, A = some ⟨g, o, none⟩ → g ≠ b := fun g o e1 e2 => by
    subst e1; subst e2
    exact own_not_rec ho h.row (by decide) rfl
  have HI := hid (Index_any be br b e t v L h1 h2 h3 A n c en hn w h (Cells.of_own ho) hA)
  have HA := hid ho
  have EN := hid en
  have H1 := hid h1
  have H2 := hid h2
  have H3 := hid h3
  have HF := hid hA
  have H0 := hid h
  clear ho en h1 h2 h3 hA h
  go_enter Try.func30, Try.ntmps30
  go_upto_region 2 with (go_at_call 37; refine HI.out.mono ?_; rintro _ w1 ⟨r, rfl, hk1, hcs⟩)
  rcases hcs with ⟨i0, rfl, hi0, hd0, hn0, ho1⟩ | ⟨rfl, hn0, ho1⟩
  · obtain ⟨g, c', hv, hBg⟩ := own_succ HA.out (by omega)
    injection hv with hv1 _ hv2
    subst hv1; subst hv2
    have hgb : g ≠ b := HF.out g 0 rfl
    have hlf : leftF e (L.take i0) = L.take i0 := left_none (fun j hj => by
      have hj' : j < i0 := by rw [List.length_take] at hj; omega
      have := hn0 j hj'
      unfold waA at this ⊢
      rwa [List.getElem?_take, if_pos hj'])
    have hlf1 : leftF e (L.take (i0 + 1)) = L.take i0 := by rw [left_step (by rw [EN.out]; exact hi0), hlf, hd0]; simp
    have hD1 := hid (show DelAt w w1 be br b g B n c e t v L i0 (i0 + 1) L from
      ⟨Nat.lt_succ_self _, by rw [hlf1, List.length_take, EN.out]; omega, EN.out, hlf1.symm, rfl, ho1, own_keep HA.out hk1 (fun q hq => by cases hq; exact hgb), hk1.mono (fun k _ h => .inl h)⟩)
    have e0 : IntKind.i64.wrap ((i0 : Int) + 1) = (i0 : Int) + 1 := by rw [IntKind.wrap_i64]; unfold maxLen at hn; omega
    have hne : ((i0 : Int) == -1) = false := by
      rw [beq_eq_false_iff_ne]; omega
    have hi0' : i0 + 1 ≤ n := hi0
    clear hn0 hd0 ho1 hk1 hlf hlf1 HI H0 hi0
    go_wp2_with fail
    clear hne
    go_loopw [5, 6, 7] (fun u5 u6 _ wr => ∃ (i j : Nat) (X : List (Int × Int)), u5 = .int .i64 (i : Int) ∧ u6 = .int .i64 (j : Int) ∧ j ≤ n ∧ Hid (DelAt w wr be br b g B n c e t v L i j X)) (fun _ u6 _ _ => n - (intOf u6).toNat)
    case atStart => exact ⟨i0, i0 + 1, L, rfl, by go_num, hi0', hD1⟩
    case round =>
      clear hD1 e0 hi0'
      obtain ⟨i, j, X, rfl, rfl, hj, H⟩ := hrel
      have hij := H.out.lt
      by_cases hlt : j < n
      · obtain ⟨g1, o1, e1, q0, q1⟩ := wa_at (Cells.of_own H.out.own) (k := j) (by rw [H.out.xl]; exact hlt)
        injection e1 with e1
        injection e1 with e1 e2
        subst e1; subst e2
        rw [H.out.nth EN.out hlt] at q0 q1
        have HO := hid (fun W hW => Over1_any be br b e (goK e t L j) v (waA L j) H1.out (H2.out j) (goK_in H1.out H2.out H3.out j) W hW)
        have HT := hid (show goK e t L (j + 1) = seeW e (goK e t L j) (waA L j) from rfl)
        have HST := hid (left_step (e := e) (L := L) (k := j) (by rw [EN.out]; exact hlt))
        have hji : IntKind.i64.wrap ((j : Int) + 1) = (j : Int) + 1 := by rw [IntKind.wrap_i64]; unfold maxLen at hn; omega
        have hii : IntKind.i64.wrap ((i : Int) + 1) = (i : Int) + 1 := by rw [IntKind.wrap_i64]; unfold maxLen at hn; omega
        have HX := hid (wa_get (L := L) (k := j) (by rw [EN.out]; exact hlt))
        obtain ⟨⟨xk, xf⟩, ex⟩ : ∃ z, waA L j = z := ⟨_, rfl⟩
        rw [ex] at q0 q1 HO HT HST HX
        simp only [Nat.zero_add] at q0 q1 HO
        obtain ⟨K, eK⟩ : ∃ K, wr.heap.size = K := ⟨_, rfl⟩
        obtain ⟨w5, ew5⟩ : ∃ w5, w5 = wr.alloc (.cells #[.int .i64 xk, .int .u64 xf] tWa) := ⟨_, rfl⟩
        have hgK : g < K := by rw [← eK]; exact (H.out.own.lt g rfl).2
        have hbK : b < K := by rw [← eK]; exact H.out.at_.row.lt
        have HO5 := hid (show OvAt w5 be br b e (goK e t L j) v from by rw [ew5]; exact ⟨H.out.at_.ev.alloc _, H.out.at_.pt.alloc _, H.out.at_.row.alloc _⟩)
        have HW5 := hid (show w5.ownsRow B tWa 2 (.slice (some ⟨g, 0, none⟩) n c) n (tab waV X) from by rw [ew5]; exact H.out.own.alloc _)
        have HK5 := hid (show Kept (fun k => k = b ∨ k = g) w w5 from by rw [ew5]; exact H.out.kept.alloc _)
        have HR5 := hid (show Rec w5 K tWa #[.int .i64 xk, .int .u64 xf] from by rw [ew5, ← eK]; exact Rec.new wr _ _)
        have EW5 := hid ew5
        have hgl := World.block_lt_of_cell? _ _ q0
        simp only at hgl
        clear ew5 ex
        go_upto_region 8 with (fail)
        change Code.wp _ _ _ _ (wr.alloc (.cells #[.int .i64 xk, .int .u64 xf] tWa))
        rw [← EW5.out]
        have d0 := Rec.cell HR5.out 0
        have d1 := Rec.cell HR5.out 1
        simp at d0 d1
        have hKl := HR5.out.lt
        clear q0 q1 eK hgl
        obtain ⟨d, ed⟩ : ∃ d, delF e (xk, xf) = d := ⟨_, rfl⟩
        rw [ed] at HO HST
        clear ed
        cases d with
        | true =>
          go_wp2_with (go_at_call 31; refine (HO.out _ HO5.out).mono ?_; rintro _ w6 ⟨rfl, ho6, hk6⟩)
          go_roundw
          case rel =>
            have HS : leftF e (L.take (j + 1)) = leftF e (L.take j) := by rw [HST.out]; simp
            exact ⟨i, j + 1, X, rfl, by go_num, by omega, hid ⟨by omega, by rw [HS]; exact H.out.len, H.out.xl, by rw [HS]; exact H.out.fst, by rw [← List.drop_drop, H.out.rest, List.drop_drop], by rw [HT.out]; exact ho6,
              own_keep HW5.out hk6 (fun q hq => by cases hq; exact hgb), HK5.out.trans' hk6 (fun _ _ h => .inl h)⟩⟩
          case measure => simp [intOf]; omega
        | false =>
          have hin : i < X.length := by rw [H.out.xl]; omega
          go_wp2_with (go_at_call 31; refine (HO.out _ HO5.out).mono ?_; rintro _ w6 ⟨rfl, ho6, hk6⟩; have HW6 := hid (own_keep HW5.out hk6 (fun q hq => by cases hq; exact hgb)); have HR6 := hid (HR5.out.kept hk6 (by omega)); have d0 := Rec.cell HR6.out 0; have d1 := Rec.cell HR6.out 1; simp at d0 d1; have hKl := HR6.out.lt; obtain ⟨g1, o1, e1, q0, q1⟩ := wa_at (Cells.of_own HW6.out) (k := i) hin; injection e1 with e1; injection e1 with e1 e2; subst e1; subst e2; simp only [Nat.zero_add] at q0 q1; have f0 := HW6.out.frozenAt (i * 2); have f1 := HW6.out.frozenAt (i * 2 + 1); have hgl := (HW6.out.lt g rfl).2)
          go_roundw
          case rel =>
            have HS : leftF e (L.take (j + 1)) = leftF e (L.take j) ++ [(xk, xf)] := by rw [HST.out]; simp
            have hw6 := HW6.out
            rw [← H.out.xl] at hw6
            obtain ⟨hp1, hp2, _⟩ := own_put waV_length (by omega) hw6 hin (xk, xf)
            rw [H.out.xl] at hp1
            refine ⟨i + 1, j + 1, X.set i (xk, xf), by go_num, by go_num, by omega, hid ⟨by omega, by rw [HS, List.length_append, ← H.out.len]; rfl, by rw [List.length_set]; exact H.out.xl, ?_, ?_, ?_, hp1, ?_⟩⟩
            · rw [HS, ← H.out.fst, List.take_add_one, List.getElem?_set_self hin, List.take_set_of_le (Nat.le_refl _)]; rfl
            · rw [List.drop_set_of_lt (by omega), ← List.drop_drop, H.out.rest, List.drop_drop]
            · rw [HT.out]
              exact ho6.kept (F := fun k => k = g) ⟨hp2.os, hp2.tape, hp2.output, hp2.size, fun k hk hn => hp2.block k hk (fun e => hn (by injection e))⟩ (fun h => own_not_rec HW6.out ho6.ev (by decide) (by rw [h]; rfl)) (fun h => own_not_rec HW6.out ho6.pt (by decide) (by rw [h]; rfl)) (fun h => hgb h.symm)
            · exact (HK5.out.trans' hk6 (fun _ _ h => .inl h)).trans ⟨hp2.os, hp2.tape, hp2.output, hp2.size, fun k hk hn => hp2.block k hk (fun e => hn (.inr (by injection e)))⟩
          case measure => simp [intOf]; omega
      · obtain rfl : n = j := by omega
        have hfin : X.take i = leftF e L := by rw [H.out.fst, List.take_of_length_le (by rw [EN.out]; exact Nat.le_refl _)]
        have hlen : i = (leftF e L).length := by rw [H.out.len, List.take_of_length_le (by rw [EN.out]; exact Nat.le_refl _)]
        have HFI := hid hfin
        have HLE := hid hlen
        have hcap : n ≤ c := own_cap H.out.own
        have hic : i < c := by omega
        have hin : i ≤ n := by omega
        have hcl : ∀ ty, (Builtin.clear_ #[47] ty #[.slice (some ⟨g, i * 2, none⟩) (n - i) (c - i)]).run Try.prog wr = .ok (.tuple #[]) (wr.setCells g (i * 2) (Builtin.zeroCells (Value.agg #[.int .i64 0, .int .u64 0]).cells (n - i)).toList) :=
          fun ty => run_clear_own H.out.own _ ty (.agg #[.int .i64 0, .int .u64 0]) Try.underlying47 zero_wait rfl (fun u hu => by
            simp [Builtin.zeroCells, Value.cells] at hu
            obtain ⟨q, hq, rfl⟩ := hu
            rcases (show q % 2 = 0 ∨ q % 2 = 1 by omega) with h | h <;> simp [h, Value.oneCell']) (by omega)
        clear hfin hlen hij
        go_wp2_with fail
        go_ret
        rw [← HLE.out]
        have hzl : (Builtin.zeroCells #[Value.int .i64 0, Value.int .u64 0] (n - i)).toList.length = (n - i) * 2 := by simp [Builtin.zeroCells]
        have hz := own_setCells (Builtin.zeroCells #[Value.int .i64 0, Value.int .u64 0] (n - i)).toList (tab waV X) (i * 2) wr H.out.own
        have hc2 := own_cut hz.1 hin
        rw [setL_take (by rw [hzl, tab_length waV_length, H.out.xl]; omega), tab_take waV_length, HFI.out] at hc2
        have hg2 := hz.2
        have hk2 : Kept (fun k => k = g) wr (wr.setCells g (i * 2) (Builtin.zeroCells #[Value.int .i64 0, Value.int .u64 0] (n - i)).toList) := ⟨hg2.os, hg2.tape, hg2.output, hg2.size, fun k hk hn => hg2.block k hk (fun e => hn (by injection e))⟩
        refine ⟨rfl, H.out.at_.kept hk2 (fun h => own_not_rec H.out.own H.out.at_.ev (by decide) (by rw [h]; rfl)) (fun h => own_not_rec H.out.own H.out.at_.pt (by decide) (by rw [h]; rfl)) (fun h => hgb h.symm), hc2, ?_⟩
        refine (H.out.kept.trans (hk2.mono (fun _ _ h => .inr h))).mono (fun k _ h => ?_)
        rcases h with h | h
        · exact .inl h
        · exact .inr ⟨0, by rw [h]⟩
  · go_wp2_with fail
    go_ret
    have hl := left_none (L := L) (e := e) (by rw [EN.out]; exact hn0)
    rw [hl, EN.out]
    refine ⟨rfl, ho1, own_keep HA.out hk1 (fun q hq => ?_), hk1.mono (fun k _ h => .inl h)⟩
    rcases HA.out.2 with ⟨hv, _⟩ | ⟨g, c', cur, hv, _⟩
    · rw [hv] at hq; cases hq
    · injection hv with hv
      rw [hv] at hq
      cases hq
      exact HF.out g 0 hv
end Go.Proofs.Ytdeejiiegmddaaa
