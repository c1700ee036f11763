/-
  Layer 39: what was pushed stands by levels, each in the order in which it came. Plain.
-/
import Derived.Test.YtngokihncjkiaaaDoorPrN
import Derived.Test.YtngokihncjkiaaaDoorPrT
namespace Go
open Go.RowKit
section
variable {P : Program} {B : Nat} {O O' : Ob} {W0 W W' : World} {F : Nat → Prop} {fn : FuncId} {args : Array Value} {r : Value}
theorem After.act (h : After O F W0 W) (hc : ∀ F1, O W F1 → Calls P fn args W (fun e w' => e = .returned r ∧ After O' F1 W w')) : Calls P fn args W (fun e w' => e = .returned r ∧ After O' F W0 w') := by
  obtain ⟨F1, a, b, c⟩ := h
  exact (hc F1 a).mono fun _ w' g => ⟨g.1, After.next b c g.2⟩
theorem After.far (hO : IsO B O) (h : After O F W0 W) (hb : Below W.heap.size W W') : After O F W0 W' := by
  obtain ⟨F1, a, b, c⟩ := h
  exact ⟨F1, hO.far a hb, b, c.trans (Kept.of_below hb F)⟩
theorem After.refl {O : Ob} (h : O W F) : After O F W W := ⟨F, h, fun _ h => .inl h, Kept.refl F W⟩
end
end Go
namespace Go.Proofs.YtngokihncjkiaaaDoor
open Go.RowKit
def lvl (i : Nat) (l : List (Int × Int)) : List (Int × Int) := l.map fun x => ((i : Int), x.2)
def flL (L : Nat → List (Int × Int)) : List (Int × Int) := (List.range 64).flatMap fun i => lvl i (L i)
theorem mem_lvl {i : Nat} {l : List (Int × Int)} {x : Int × Int} (h : x ∈ lvl i l) : x.1 = i := by
  simp only [lvl, List.mem_map] at h
  obtain ⟨y, _, rfl⟩ := h
  rfl
theorem lvl_length (i : Nat) (l : List (Int × Int)) : (lvl i l).length = l.length := by simp [lvl]
theorem lvl_append (i : Nat) (l l' : List (Int × Int)) : lvl i (l ++ l') = lvl i l ++ lvl i l' := by simp [lvl]
theorem range_split {i : Nat} (hi : i < 64) : List.range 64 = List.range' 0 i ++ i :: List.range' (i + 1) (63 - i) := by
  rw [← List.range'_succ, List.range_eq_range']
  have h := (List.range'_append_1 (s := 0) (m := i) (n := 63 - i + 1)).symm
  rw [Nat.zero_add] at h
  rw [← h]
  congr 1
  omega
theorem flatMap_congr {α β : Type} {f g : α → List β} : ∀ {l : List α}, (∀ x ∈ l, f x = g x) → l.flatMap f = l.flatMap g
  | [], _ => rfl
  | x :: l, h => by
    rw [List.flatMap_cons, List.flatMap_cons, h x (List.mem_cons_self), flatMap_congr (fun y hy => h y (List.mem_cons_of_mem _ hy))]
theorem flL_split (L : Nat → List (Int × Int)) {i : Nat} (hi : i < 64) : ∃ pre post : List (Int × Int), (∀ x ∈ pre, x.1 < i) ∧ (∀ x ∈ post, (i : Int) < x.1) ∧ (∀ L' : Nat → List (Int × Int), (∀ j, j ≠ i → L' j = L j) → flL L' = pre ++ (lvl i (L' i) ++ post)) ∧ ((∀ j, j < i → L j = []) → pre = []) := by
  refine ⟨(List.range' 0 i).flatMap fun j => lvl j (L j), (List.range' (i + 1) (63 - i)).flatMap fun j => lvl j (L j), fun x hx => ?_, fun x hx => ?_, fun L' hL => ?_, fun h => ?_⟩
  · obtain ⟨j, hj, hx⟩ := List.mem_flatMap.1 hx
    rw [mem_lvl hx]
    have := (List.mem_range'_1.1 hj).2
    omega
  · obtain ⟨j, hj, hx⟩ := List.mem_flatMap.1 hx
    rw [mem_lvl hx]
    have := (List.mem_range'_1.1 hj).1
    omega
  · unfold flL
    rw [range_split hi, List.flatMap_append, List.flatMap_cons]
    congr 1
    · exact flatMap_congr fun j hj => by rw [hL j (by have := (List.mem_range'_1.1 hj).2; omega)]
    · congr 1
      exact flatMap_congr fun j hj => by rw [hL j (by have := (List.mem_range'_1.1 hj).1; omega)]
  · rw [flatMap_congr (g := fun _ => []) (fun j hj => by rw [h j (by have := (List.mem_range'_1.1 hj).2; omega)]; rfl)]
    simp
theorem flL_upd (L : Nat → List (Int × Int)) {i : Nat} (hi : i < 64) : ∃ pre post : List (Int × Int), (∀ x ∈ pre, x.1 < i) ∧ (∀ x ∈ post, (i : Int) < x.1) ∧ flL L = pre ++ (lvl i (L i) ++ post) ∧ (∀ l, flL (updN L i l) = pre ++ (lvl i l ++ post)) ∧ ((∀ j, j < i → L j = []) → pre = []) := by
  obtain ⟨pre, post, h1, h2, h3, h4⟩ := flL_split L hi
  refine ⟨pre, post, h1, h2, h3 L (fun _ _ => rfl), fun l => ?_, h4⟩
  have := h3 (updN L i l) (fun j hj => updN_ne _ _ hj)
  rwa [updN_same] at this
theorem countP_none {l : List (Int × Int)} {v : Int} (h : ∀ x ∈ l, x.1 ≠ v) : l.countP (fun x => x.1 == v) = 0 := by
  rw [List.countP_eq_zero]
  intro x hx
  simpa using h x hx
theorem countP_lvl (i : Nat) (l : List (Int × Int)) : (lvl i l).countP (fun x => x.1 == (i : Int)) = l.length := by
  rw [← lvl_length i l, List.countP_eq_length]
  intro x hx
  simp [mem_lvl hx]
theorem flL_cnt (L : Nat → List (Int × Int)) {i : Nat} (hi : i < 64) : cntD (flL L) i = (L i).length := by
  obtain ⟨pre, post, h1, h2, h3, -, -⟩ := flL_upd L hi
  unfold cntD
  rw [h3, List.countP_append, List.countP_append, countP_lvl, countP_none (fun x hx => by have := h1 x hx; omega), countP_none (fun x hx => by have := h2 x hx; omega)]
  omega
theorem takeWhile_all {p : Int × Int → Bool} : ∀ {l l' : List (Int × Int)}, (∀ x ∈ l, p x = true) → (∀ x ∈ l', p x = false) → (l ++ l').takeWhile p = l
  | [], [], _, _ => rfl
  | [], y :: l', _, h => by
    rw [List.nil_append, List.takeWhile_cons_of_neg (by rw [h y List.mem_cons_self]; exact Bool.false_ne_true)]
  | x :: l, l', h, h' => by
    rw [List.cons_append, List.takeWhile_cons_of_pos (h x List.mem_cons_self), takeWhile_all (fun y hy => h y (List.mem_cons_of_mem _ hy)) h']
theorem flL_ins (L : Nat → List (Int × Int)) {i : Nat} (hi : i < 64) (t v : Int) : insD (flL L) i v = flL (updN L i (L i ++ [(t, v)])) := by
  obtain ⟨pre, post, h1, h2, h3, h4, -⟩ := flL_upd L hi
  have hk : insK (flL L) i = (pre ++ lvl i (L i)).length := by
    unfold insK
    rw [h3, ← List.append_assoc, takeWhile_all]
    · intro x hx
      rcases List.mem_append.1 hx with hx | hx
      · have := h1 x hx; simp; omega
      · have := mem_lvl hx; simp; omega
    · intro x hx
      have := h2 x hx; simp; omega
  unfold insD
  rw [hk, h3, ← List.append_assoc, List.take_left', List.drop_left', h4, lvl_append]
  · simp [lvl]
  · rfl
  · rfl
theorem flL_take (L : Nat → List (Int × Int)) {i : Nat} (hi : i < 64) {x : Int × Int} {R : List (Int × Int)} (h : L i = x :: R) : ∃ p : Nat, (flL L)[p]? = some ((i : Int), x.2) ∧ (∀ (j : Nat) (y : Int × Int), j < p → (flL L)[j]? = some y → y.1 ≠ i) ∧ (flL L).eraseIdx p = flL (updN L i R) := by
  obtain ⟨pre, post, h1, h2, h3, h4, -⟩ := flL_upd L hi
  refine ⟨pre.length, ?_, fun j y hj hy => ?_, ?_⟩
  · rw [h3, h, List.getElem?_append_right (Nat.le_refl _), Nat.sub_self]; rfl
  · rw [h3, List.getElem?_append_left hj] at hy
    have := h1 y (List.mem_of_getElem? hy)
    omega
  · rw [h3, h, h4, List.eraseIdx_append_of_length_le (Nat.le_refl _), Nat.sub_self]; rfl
theorem flL_pop (L : Nat → List (Int × Int)) {i : Nat} (hi : i < 64) {x : Int × Int} {R : List (Int × Int)} (h : L i = x :: R) (hb : ∀ j, j < i → L j = []) : flL L = ((i : Int), x.2) :: flL (updN L i R) := by
  obtain ⟨pre, post, h1, h2, h3, h4, h5⟩ := flL_upd L hi
  rw [h4, h3, h5 hb, h]
  rfl
theorem flL_length (L : Nat → List (Int × Int)) : (flL L).length = tot L := by
  have h : ∀ k, ((List.range k).flatMap fun i => lvl i (L i)).length = totTo L k := by
    intro k
    induction k with
    | zero => rfl
    | succ k ih => rw [List.range_succ, List.flatMap_append, List.length_append, ih]; simp [totTo, lvl_length]
  exact h 64
theorem flL_level (L : Nat → List (Int × Int)) {x : Int × Int} (h : x ∈ flL L) : ∃ i : Nat, i < 64 ∧ x.1 = i ∧ L i ≠ [] := by
  obtain ⟨i, hi, hx⟩ := List.mem_flatMap.1 h
  refine ⟨i, List.mem_range.1 hi, mem_lvl hx, fun e => ?_⟩
  rw [e] at hx
  cases hx
theorem flL_has (L : Nat → List (Int × Int)) {i : Nat} (hi : i < 64) (h : L i ≠ []) : ∃ x ∈ flL L, x.1 = (i : Int) := by
  cases hL : L i with
  | nil => exact absurd hL h
  | cons x R =>
    refine ⟨((i : Int), x.2), List.mem_flatMap.2 ⟨i, List.mem_range.2 hi, ?_⟩, rfl⟩
    rw [hL]; exact List.mem_cons_self
end Go.Proofs.YtngokihncjkiaaaDoor
namespace Go.Proofs.YtngokihncjkiaaaDoor
open Go.RowKit
attribute [local go_sem] Oper.semAt_some
/-- A level of which k were brought to another one. -/
def lifL (L : Nat → List (Int × Int)) (t : Int) (i j k : Nat) : Nat → List (Int × Int) := updN (updN L i ((L i).drop k)) j (L j ++ tkt t ((L i).take k))
theorem lifL_zero (L : Nat → List (Int × Int)) (t : Int) (i j : Nat) (hij : i ≠ j) : lifL L t i j 0 = L := by
  unfold lifL
  rw [List.drop_zero, updN_self, List.take_zero]
  simp only [tkt, List.append_nil]
  exact updN_self L j
theorem lifL_succ (L : Nat → List (Int × Int)) (t : Int) {i j k : Nat} (hij : i ≠ j) {x : Int × Int} {R : List (Int × Int)} (h : (L i).drop k = x :: R) :
    lifL L t i j (k + 1) = updN (updN (lifL L t i j k) i R) j (L j ++ tkt t ((L i).take k) ++ [(t + k + 1, x.2)]) := by
  have hk : k < (L i).length := by
    have := congrArg List.length h
    simp at this
    omega
  have e0 : (L i)[k] :: (L i).drop (k + 1) = x :: R := by rw [← h, List.drop_eq_getElem_cons hk]
  injection e0 with e1 e2
  funext m
  by_cases h1 : m = j
  · subst h1
    rw [lifL, updN_same, updN_same, List.take_succ_eq_append_getElem hk, tkt_snoc, List.length_take, Nat.min_eq_left (Nat.le_of_lt hk), e1, List.append_assoc]
  · rw [lifL, updN_ne _ _ h1, updN_ne _ _ h1]
    by_cases h2 : m = i
    · subst h2
      rw [updN_same, updN_same, e2]
    · rw [updN_ne _ _ h2, updN_ne _ _ h2, lifL, updN_ne _ _ h1, updN_ne _ _ h2]
set_option maxRecDepth 100000 in
set_option maxHeartbeats 4000000 in
theorem ELift_any {B : Nat} {w : World} {r : Nat} {F : Nat → Prop} {most : Int} {L : Nat → List (Int × Int)} (h : EA B w r F most (flL L)) (hB : B ≤ w.heap.size) (hT : tot L ≤ 4000) {i j : Nat} (hi : i < 64) (hj : j < 64) (hij : i ≠ j) (t : Int) {K : Nat} (hK : pourN 4096 most (L i) (L j) = K) :
    Calls Tryd.prog 14 #[.pointer (some ⟨r, 0, none⟩), .int .i64 (i : Int), .int .i64 (j : Int)] w (fun e w' => e = .returned (.int .i64 (K : Int)) ∧ After (fun W F => EA B W r F most (flL (lifL L t i j K))) F w w') := by
  have hl1 := len_le_tot L hi
  have hl2 := len_le_tot L hj
  have hK' : (K : Int) = min ((L i).length : Int) (max (most - ((L j).length : Int)) 0) := by unfold pourN at hK; omega
  have hst := hid (show After (fun W F => EA B W r F most (flL (lifL L t i j 0))) F w w by rw [lifL_zero L t i j hij]; exact After.refl h)
  have dij : ((i : Int) == (j : Int)) = false := by simp; omega
  have dij3 : ((i : Int) != (j : Int)) = true := by simp; omega
  have hi1 : (i : Int) < 64 := by omega
  have hj1 : (j : Int) < 64 := by omega
  clear h hK
  go_enter Tryd.func14, Tryd.ntmps14
  go_wp2_with fail
  go_loopw [7, 8, 9] (fun v _ _ wr => ∃ k : Nat, v = .int .i64 (k : Int) ∧ k ≤ K ∧ Hid (After (fun W F => EA B W r F most (flL (lifL L t i j k))) F w wr)) (fun v _ _ _ => K - natE v)
  case atStart => exact ⟨0, rfl, by omega, hst⟩
  case round =>
    clear hst
    obtain ⟨k, rfl, hk, HR⟩ := hrel
    have htot : tot (lifL L t i j k) ≤ 4000 := by
      have h1 := tot_upd (updN L i ((L i).drop k)) hj (L j ++ tkt t ((L i).take k))
      have h2 := tot_upd L hi ((L i).drop k)
      rw [updN_ne _ _ (Ne.symm hij)] at h1
      simp only [List.length_append, tkt_length, List.length_take, List.length_drop] at h1 h2
      unfold lifL
      omega
    have hci : cntD (flL (lifL L t i j k)) i = (L i).length - k := by
      rw [flL_cnt _ hi]; unfold lifL; rw [updN_ne _ _ hij, updN_same, List.length_drop]
    have hcj : cntD (flL (lifL L t i j k)) j = (L j).length + min k (L i).length := by
      rw [flL_cnt _ hj]; unfold lifL; rw [updN_same, List.length_append, tkt_length, List.length_take]
    obtain ⟨cf, ecf⟩ : ∃ cf : Int → Nat, cf = cntD (flL (lifL L t i j k)) := ⟨_, rfl⟩
    rw [← ecf] at hci hcj
    obtain ⟨F1, hE, hF1, hK1⟩ := HR.out
    have HE := hid hE
    have hsz := hK1.size
    have HLEN := hid (show (flL (lifL L t i j k)).length ≤ 4096 by rw [flL_length]; omega)
    have HCNT := hid (fun (y : Past) (l : Int) => (show Calls Tryd.prog 30 #[.pointer (some ⟨r, 0, none⟩), .int .i64 l] (wr.past y) (Gives (.int .i64 (cf l : Int)) (wr.past y)) from by
      rw [ecf]; exact ECount_any (hE.far (wr.below_past y)) HLEN.out l))
    have q0 := hE.cells
    obtain ⟨A, c, q0, -, hrl, -⟩ := q0
    have HKI := hid hci
    have HKJ := hid hcj
    have HB := hid (show B ≤ wr.heap.size by omega)
    by_cases hlt : k < K
    · have c1 : 0 < cf i := by omega
      have c2 : ((cf j : Nat) : Int) < most := by omega
      have hne : ∃ x R, (L i).drop k = x :: R := by
        cases e : (L i).drop k with
        | nil => have := congrArg List.length e; simp at this; omega
        | cons x R => exact ⟨x, R, rfl⟩
      obtain ⟨x, R, hxR⟩ := hne
      have hLi : lifL L t i j k i = x :: R := by unfold lifL; rw [updN_ne _ _ hij, updN_same, hxR]
      obtain ⟨p, hp1, hp2, hp3⟩ := flL_take (lifL L t i j k) hi hLi
      have HTA := hid (fun y : Past => (show Calls Tryd.prog 34 #[.pointer (some ⟨r, 0, none⟩), .int .i64 (i : Int)] (wr.past y) (fun e w' => e = .returned (.tuple #[.int .i64 x.2, .bool true]) ∧ After (fun W F => EA B W r F most (flL (updN (lifL L t i j k) i R))) F w w') from
        (After.far EA.is HR.out (wr.below_past y)).act (fun F1 h1 => by
          have := ETake_any h1 (Nat.le_trans HB.out (wr.below_past y).size) HLEN.out hp1 rfl hp2
          rw [hp3] at this
          exact this)))
      have HPU := hid (fun (w2 : World) (h : After (fun W F => EA B W r F most (flL (updN (lifL L t i j k) i R))) F w w2) => (show Calls Tryd.prog 9 #[.pointer (some ⟨r, 0, none⟩), .int .i64 (j : Int), .int .i64 x.2] w2 (fun e w' => e = .returned (.int .i64 0) ∧ After (fun W F => EA B W r F most (flL (lifL L t i j (k + 1)))) F w w') from
        h.act (fun F1 h1 => by
          have hB2 : B ≤ w2.heap.size := by obtain ⟨_, _, _, g⟩ := h; exact Nat.le_trans hB g.size
          have e1 : cntD (flL (updN (lifL L t i j k) i R)) j = cf j := by
            rw [flL_cnt _ hj, updN_ne _ _ (Ne.symm hij), ← flL_cnt _ hj, ← ecf]
          have e2 : (flL (updN (lifL L t i j k) i R)).length ≤ 4096 := by
            have := tot_upd (lifL L t i j k) hi R
            rw [hLi] at this
            simp only [List.length_cons] at this
            rw [flL_length]; omega
          have := EPush_any h1 hB2 e2 hj (by rw [e1]; exact c2) x.2
          rw [flL_ins _ hj (t + k + 1), updN_ne _ _ (Ne.symm hij)] at this
          rw [lifL_succ L t hij hxR]
          rw [show lifL L t i j k j = L j ++ tkt t ((L i).take k) from by unfold lifL; rw [updN_same]] at this
          exact this)))
      obtain ⟨v, ev⟩ : ∃ v, x.2 = v := ⟨_, rfl⟩
      rw [ev] at HTA HPU
      have e1 : IntKind.i64.wrap ((k : Int) + 1) = (k : Int) + 1 := by rw [IntKind.wrap_i64]; omega
      have g1 : decide (0 < cf i) = true := by simpa using c1
      have g2 : decide (((cf j : Nat) : Int) < most) = true := by simpa using c2
      clear hci hcj ecf hE hxR hLi hp1 hp2 hp3 ev hK' hK1 hF1
      go_wp2_with fail
      refine wp_region_past (by kernel_rfl) (by kernel_rfl) ?_
      repeat (go_big_quiet_step ((first | (go_at_call 30; first | with_reducible exact Calls.in_past (HCNT.out _ _) | with_reducible exact Calls.in_past2 (HCNT.out _ _)) | (go_at_call 30; first | exact Calls.in_past (HCNT.out _ _) | exact Calls.in_past2 (HCNT.out _ _)))))
      refine wpQuiet_nil ?_
      rintro _ ⟨_, rfl⟩
      go_wp2_with (first | (go_at_call 34; refine (HTA.out _).mono ?_; rintro _ w2 ⟨rfl, h2⟩; have H2 := hid h2; clear h2) | (go_at_call 9; refine (HPU.out _ H2.out).mono ?_; rintro _ w3 ⟨rfl, h3⟩; have H3 := hid h3; clear h3))
      go_roundw
      case rel => exact ⟨k + 1, by simp, by omega, H3⟩
      case measure => simp [natE]; omega
    · obtain rfl : K = k := by omega
      have hcase : cf i = 0 ∨ (0 < cf i ∧ ¬ ((cf j : Nat) : Int) < most) := by omega
      have hcase2 : decide (0 < cf i) = false ∨ (decide (0 < cf i) = true ∧ decide (((cf j : Nat) : Int) < most) = false) := by
        rcases hcase with g | ⟨g, g'⟩
        · exact .inl (by simpa using g)
        · exact .inr ⟨by simpa using g, by simpa using g'⟩
      clear hcase hci hcj ecf hE hK' hK1 hF1
      rcases hcase2 with g1 | ⟨g1, g2⟩
      all_goals
        go_wp2_with fail
        refine wp_region_past (by kernel_rfl) (by kernel_rfl) ?_
        repeat (go_big_quiet_step ((first | (go_at_call 30; first | with_reducible exact Calls.in_past (HCNT.out _ _) | with_reducible exact Calls.in_past2 (HCNT.out _ _)) | (go_at_call 30; first | exact Calls.in_past (HCNT.out _ _) | exact Calls.in_past2 (HCNT.out _ _)))))
        refine wpQuiet_nil ?_
        rintro _ ⟨_, rfl⟩
        go_wp2_with fail
        go_ret
        exact ⟨rfl, After.far EA.is HR.out (wr.below_past _)⟩
end Go.Proofs.YtngokihncjkiaaaDoor
namespace Go.Proofs.YtngokihncjkiaaaDoor
open Go.RowKit
def atU (l : List Int) (k : Nat) : Int := (l[k]?).getD 0
theorem atU_get {l : List Int} {k : Nat} (h : k < l.length) : l[k]? = some (atU l k) := by simp [atU, h]
/-- The first k of some, pushed each at its level. -/
structure PI (l : List Int) (k : Nat) (t : Nat → Int) (L : Nat → List (Int × Int)) : Prop where
  elt : ∀ (i : Nat) (x : Int × Int), x ∈ L i → ∃ j : Nat, x.2 = j ∧ j < k ∧ atU l j % 64 = i
  inc : ∀ i : Nat, (L i).Pairwise (fun x y => x.2 < y.2)
  tot : tot L = k
  tk : ∀ i : Nat, i < 64 → t i ≤ k
theorem PI.nil (l : List Int) : PI l 0 (fun _ => 0) (fun _ => []) := ⟨fun i x h => (by cases h), fun i => List.Pairwise.nil, tot_zero (fun _ _ => rfl), fun i _ => (by simp)⟩
theorem PI.push {l : List Int} {k : Nat} {t : Nat → Int} {L : Nat → List (Int × Int)} (h : PI l k t L) {i : Nat} (hi : i < 64) (hz : atU l k % 64 = i) : PI l (k + 1) (updN t i (t i + 1)) (updN L i (L i ++ [(t i + 1, (k : Int))])) := by
  refine ⟨fun j x hx => ?_, fun j => ?_, ?_, fun j hj => ?_⟩
  · by_cases e : j = i
    · subst e
      rw [updN_same] at hx
      rcases List.mem_append.1 hx with hx | hx
      · obtain ⟨m, h1, h2, h3⟩ := h.elt j x hx
        exact ⟨m, h1, by omega, h3⟩
      · rw [List.mem_singleton] at hx
        subst hx
        exact ⟨k, rfl, by omega, hz⟩
    · rw [updN_ne _ _ e] at hx
      obtain ⟨m, h1, h2, h3⟩ := h.elt j x hx
      exact ⟨m, h1, by omega, h3⟩
  · by_cases e : j = i
    · subst e
      rw [updN_same, List.pairwise_append]
      refine ⟨h.inc j, List.pairwise_singleton _ _, fun x hx y hy => ?_⟩
      rw [List.mem_singleton] at hy
      subst hy
      obtain ⟨m, h1, h2, _⟩ := h.elt j x hx
      show x.2 < (k : Int)
      omega
    · rw [updN_ne _ _ e]; exact h.inc j
  · have := tot_upd L hi (L i ++ [(t i + 1, (k : Int))])
    rw [List.length_append, List.length_singleton, h.tot] at this
    omega
  · by_cases e : j = i
    · subst e; rw [updN_same]; have := h.tk j hj; omega
    · rw [updN_ne _ _ e]; have := h.tk j hj; omega
def lexL (x y : Int × Int) : Prop := x.1 < y.1 ∨ (x.1 = y.1 ∧ x.2 < y.2)
theorem PI.mem {l : List Int} {n : Nat} {t : Nat → Int} {L : Nat → List (Int × Int)} (h : PI l n t L) {x : Int × Int} (hx : x ∈ flL L) : ∃ j : Nat, x.2 = j ∧ j < n ∧ atU l j % 64 = x.1 ∧ 0 ≤ x.1 := by
  obtain ⟨i, hi, hx⟩ := List.mem_flatMap.1 hx
  have h1 := mem_lvl hx
  simp only [lvl, List.mem_map] at hx
  obtain ⟨y, hy, rfl⟩ := hx
  obtain ⟨j, e1, e2, e3⟩ := h.elt i y hy
  exact ⟨j, e1, e2, e3, by show (0 : Int) ≤ i; omega⟩
theorem PI.lex {l : List Int} {n : Nat} {t : Nat → Int} {L : Nat → List (Int × Int)} (h : PI l n t L) : (flL L).Pairwise lexL := by
  unfold flL
  rw [List.pairwise_flatMap]
  refine ⟨fun i _ => ?_, ?_⟩
  · unfold lvl
    rw [List.pairwise_map]
    exact (h.inc i).imp fun h => .inr ⟨rfl, h⟩
  · refine List.pairwise_lt_range.imp ?_
    intro i j hij x hx y hy
    have := mem_lvl hx
    have := mem_lvl hy
    exact .inl (by omega)
theorem PI.next {l : List Int} {n : Nat} {t : Nat → Int} {L : Nat → List (Int × Int)} (h : PI l n t L) {j : Nat} {x y : Int × Int} (hx : (flL L)[j]? = some x) (hy : (flL L)[j + 1]? = some y) : lexL x y := by
  obtain ⟨h1, rfl⟩ := List.getElem?_eq_some_iff.1 hx
  obtain ⟨h2, rfl⟩ := List.getElem?_eq_some_iff.1 hy
  exact (List.pairwise_iff_getElem.1 h.lex) j (j + 1) h1 h2 (Nat.lt_succ_self j)
theorem flL_drop {L L' : Nat → List (Int × Int)} {D : List (Int × Int)} {j : Nat} {i : Nat} {x : Int × Int} (h : flL L = D.drop j) (e : flL L = ((i : Int), x.2) :: flL L') : D[j]? = some ((i : Int), x.2) ∧ flL L' = D.drop (j + 1) := by
  rw [h] at e
  constructor
  · have := congrArg (fun l => l[0]?) e
    simpa using this
  · have := congrArg List.tail e
    simpa using this.symm
end Go.Proofs.YtngokihncjkiaaaDoor
