/-
  Numbers of words, the lowest first: times a word, plus, above. No condition but on lengths.
-/
import Derived.Test.YtmkndabbkceknaaDigA
import Derived.Test.YtmkndabbkceknaaZeros
import Derived.Deep.CutRange
namespace Go.Proofs.Ytmkndabbkceknaa
open Go.RowKit
def Words (l : List Int) : Prop := ∀ x ∈ l, U64 x
theorem Words.at {l : List Int} (h : Words l) (i : Nat) : U64 (atD l i) := by
  unfold atD
  cases e : l[i]? with
  | none => exact ⟨by simp, by simp⟩
  | some x => exact h x (List.mem_of_getElem? e)
def wcar (a : List Int) (y : Int) : Nat → Int
  | 0 => 0
  | j + 1 => (atD a j * y + wcar a y j) / 18446744073709551616
def wdig (a : List Int) (y : Int) (j : Nat) : Int := (atD a j * y + wcar a y j) % 18446744073709551616
def wrow (a : List Int) (y : Int) (k : Nat) : List Int := (List.range k).map fun t => wdig a y t
def wtimes (a : List Int) (y : Int) : List Int := wrow a y a.length ++ [wcar a y a.length]
theorem wrow_succ (a : List Int) (y : Int) (k : Nat) : wrow a y (k + 1) = wrow a y k ++ [wdig a y k] := by simp [wrow, List.range_succ]
theorem wmul_small {x y : Int} (hx : U64 x) (hy : U64 y) : 0 ≤ x * y ∧ x * y ≤ 340282366920938463426481119284349108225 := by
  refine ⟨Int.mul_nonneg hx.1 hy.1, ?_⟩
  have a := Int.mul_le_mul_of_nonneg_left (show y ≤ 18446744073709551615 by have := hy.2; omega) hx.1
  have := hx.2
  omega
theorem wcar_in {a : List Int} (ha : Words a) {y : Int} (hy : U64 y) (j : Nat) : U64 (wcar a y j) := by
  induction j with
  | zero => exact ⟨by simp [wcar], by simp [wcar]⟩
  | succ j ih =>
    have := wmul_small (ha.at j) hy
    obtain ⟨p, q⟩ := ih
    simp only [wcar]
    exact ⟨by omega, by omega⟩
theorem wtimes_words {a : List Int} (ha : Words a) {y : Int} (hy : U64 y) : Words (wtimes a y) := by
  intro x hx
  simp only [wtimes, wrow, List.mem_append, List.mem_map, List.mem_singleton] at hx
  rcases hx with ⟨t, _, rfl⟩ | rfl
  · exact ⟨by unfold wdig; omega, by unfold wdig; omega⟩
  · exact wcar_in ha hy _
theorem wtimes_length (a : List Int) (y : Int) : (wtimes a y).length = a.length + 1 := by simp [wtimes, wrow]
/-- The two halves of a product, and what was carried. -/
theorem wdig_of (a : List Int) (y : Int) (j : Nat) : sumF (loF (atD a j) y) (wcar a y j) 0 = wdig a y j := by
  unfold sumF loF wdig top64; omega
theorem wcar_of (a : List Int) (y : Int) (j : Nat) : hiF (atD a j) y + carF (loF (atD a j) y) (wcar a y j) 0 = wcar a y (j + 1) := by
  have : wcar a y (j + 1) = (atD a j * y + wcar a y j) / 18446744073709551616 := rfl
  rw [this]
  unfold carF loF hiF top64; omega
set_option maxHeartbeats 1000000 in
theorem wtimes_any (A : Option Addr) (ca : Nat) (a : List Int) (y : Int) (hy : U64 y) (w : World) (hla : a.length ≤ 1000000) (da : Words a) (ha : Cells w A (u64s a)) :
    Calls Try.prog 16 #[.slice A a.length ca, .int .u64 y] w (GivesOwn 28 1 (wtimes a y).length (u64s (wtimes a y)) w) := by
  obtain ⟨i0, hi, hz0, hz1, hz2⟩ := info_parts info_u64
  obtain ⟨n, en⟩ : ∃ n, a.length = n := ⟨_, rfl⟩
  rw [wtimes_length, en]
  rw [en] at hla
  have EN := hid en
  have HY := hid hy
  have HA := hid ha
  clear en hy ha
  go_enter Try.func16, Try.ntmps16
  go_wp2_with (at_make; refine wpList_make_own _ rfl _ (.tmp 14) 46 rfl w.heap.size 28 i0 (.int .u64 0) 1 Try.underlying46 hi hz0 hz1 .i64 .i64 _ (n + 1) rfl rfl (by go_num) ?_ ?_ (Nat.le_refl _) ?_; (· rw [hz2]; omega); (· unfold maxLen; omega); intro w2 hrow hg2; have hb2 := (Below.refl w.heap.size w).grown hg2 (Nat.le_refl _) (fun _ h => by cases h); obtain ⟨x2, rfl⟩ := past_of hb2; have hrow := hid hrow; clear hg2 hb2)
  go_loopw [5, 6, 18] (fun r c j wr => ∃ (t : Nat) (x : Past), j = .int .i64 t ∧ t ≤ n ∧ wr = w.past x ∧ c = .int .u64 (wcar a y t) ∧ Hid ((w.past x).ownsRow w.heap.size 28 1 r t (u64s (wrow a y t)))) (fun _ _ j _ => n - (intOf j).toNat)
  case atStart => exact ⟨0, _, rfl, by omega, rfl, rfl, hrow⟩
  case round =>
    obtain ⟨t, x, rfl, ht, rfl, rfl, HR⟩ := hrel
    by_cases hlt : t < n
    · have hca := HA.out.past x
      obtain ⟨b1, o1, rfl, hc1⟩ := u64_at hca (show t < a.length by have := EN.out; omega)
      have e1 := wdig_of a y t
      have e2 := wcar_of a y t
      obtain ⟨p, q⟩ := wcar_in da HY.out (t + 1)
      have e3 : IntKind.u64.wrap (wcar a y (t + 1)) = wcar a y (t + 1) := by rw [IntKind.wrap_u64]; omega
      have e4 := fun w => add64_run (loF (atD a t) y) (wcar a y t) 0 (lo_word _ _) (wcar_in da HY.out t) ⟨by omega, by omega⟩ w
      rw [e1] at e4
      clear hca p q
      go_wp2_with (first | (go_at_call 24; refine (Mul64_any _ _ (da.at t) HY.out _).mono ?_; rintro _ _ ⟨rfl, _, rfl⟩) | (at_builtin; refine wpList_push rfl (.tmp 34) (.tmp 36) 46 rfl 28 i0 (.int .u64 0) 1 8 Try.underlying46 hi hz0 hz1 hz2 rfl (by decide) (w0 := w) ?_ _ _ _ rfl (own_and HR.out _) _ (#[.int .u64 (wdig a y t)]) ?_ rfl rfl ?_ ?_ ?_ ?_; (· (repeat (first | exact Below.refl _ _ | refine RowKit.Below.past ?_ _ | refine RowKit.Below.alloc' ?_ _ | refine RowKit.Below.drew' ?_ | refine RowKit.Below.drewN' ?_ _ | refine RowKit.Below.setCell' ?_ (by simp [go_sem]) _))); (· simp [go_sem]); (· simp [Value.oneCell']); (· omega); (· (unfold maxLen; omega)); intro x1 g1 cap1 hown1))
      go_roundw
      case rel =>
        refine ⟨t + 1, _, by go_num, by omega, rfl, ?_, hid ?_⟩
        · rfl
        · rw [wrow_succ, ← u64s_snoc]; exact hown1
      case measure => simp [intOf]; omega
    · obtain rfl : t = n := by omega
      go_wp2_with (at_builtin; refine wpList_push rfl (.tmp 42) (.tmp 44) 46 rfl 28 i0 (.int .u64 0) 1 8 Try.underlying46 hi hz0 hz1 hz2 rfl (by decide) (w0 := w) ?_ _ _ _ rfl (HR.out) _ (#[.int .u64 (wcar a y t)]) ?_ rfl rfl ?_ ?_ ?_ ?_; (· (repeat (first | exact Below.refl _ _ | refine RowKit.Below.past ?_ _ | refine RowKit.Below.alloc' ?_ _ | refine RowKit.Below.drew' ?_ | refine RowKit.Below.drewN' ?_ _ | refine RowKit.Below.setCell' ?_ (by simp [go_sem]) _))); (· simp [go_sem]); (· simp [Value.oneCell']); (· omega); (· (unfold maxLen; omega)); intro x1 g1 cap1 hown1)
      go_ret
      refine ⟨_, _, rfl, ?_, ?_⟩
      · (repeat (first | exact Below.refl _ _ | refine RowKit.Below.past ?_ _ | refine RowKit.Below.alloc' ?_ _ | refine RowKit.Below.drew' ?_ | refine RowKit.Below.drewN' ?_ _ | refine RowKit.Below.setCell' ?_ (by simp [go_sem]) _))
      · have e : u64s (wtimes a y) = u64s (wrow a y t) ++ [.int .u64 (wcar a y t)] := by rw [u64s_snoc, wtimes, EN.out]
        rw [e]
        exact hown1
theorem wtimes_n (A : Option Addr) (ca : Nat) (a : List Int) (n : Nat) (en : a.length = n) (y : Int) (hy : U64 y) (w : World) (hla : n ≤ 1000000) (da : Words a) (ha : Cells w A (u64s a)) :
    Calls Try.prog 16 #[.slice A n ca, .int .u64 y] w (GivesOwn 28 1 (n + 1) (u64s (wtimes a y)) w) := by
  subst en
  have := wtimes_any A ca a y hy w hla da ha
  rw [wtimes_length] at this
  exact this
def pcar (a b : List Int) : Nat → Int
  | 0 => 0
  | j + 1 => carF (atD a j) (atD b j) (pcar a b j)
def pdig (a b : List Int) (j : Nat) : Int := sumF (atD a j) (atD b j) (pcar a b j)
def prow (a b : List Int) (k : Nat) : List Int := (List.range k).map fun t => pdig a b t
def wplus (a b : List Int) : List Int := prow a b a.length ++ [pcar a b a.length]
theorem prow_succ (a b : List Int) (k : Nat) : prow a b (k + 1) = prow a b k ++ [pdig a b k] := by simp [prow, List.range_succ]
theorem prow_length (a b : List Int) (k : Nat) : (prow a b k).length = k := by simp [prow]
theorem wplus_length (a b : List Int) : (wplus a b).length = a.length + 1 := by simp [wplus, prow]
theorem pcar_in {a b : List Int} (ha : Words a) (hb : Words b) (j : Nat) : 0 ≤ pcar a b j ∧ pcar a b j ≤ 1 := by
  induction j with
  | zero => simp [pcar]
  | succ j ih =>
    obtain ⟨p, q⟩ := ha.at j
    obtain ⟨r, s⟩ := hb.at j
    simp only [pcar, carF, top64]
    omega
theorem wplus_words {a b : List Int} (ha : Words a) (hb : Words b) : Words (wplus a b) := by
  intro x hx
  simp only [wplus, prow, List.mem_append, List.mem_map, List.mem_singleton] at hx
  rcases hx with ⟨t, _, rfl⟩ | rfl
  · exact ⟨by unfold pdig sumF top64; omega, by unfold pdig sumF top64; omega⟩
  · have := pcar_in ha hb a.length
    exact ⟨by omega, by omega⟩
def pfill (a b : List Int) (n k : Nat) : List Int := prow a b k ++ List.replicate (n - k) 0
theorem pfill_length (a b : List Int) {n k : Nat} (h : k ≤ n) : (pfill a b n k).length = n := by simp [pfill, prow]; omega
theorem pfill_set (a b : List Int) {n k : Nat} (h : k < n) : (pfill a b n k).set k (pdig a b k) = pfill a b n (k + 1) := by
  unfold pfill
  rw [List.set_append_right _ _ (by simp [prow]), prow_length, Nat.sub_self, prow_succ, show n - k = (n - (k + 1)) + 1 by omega, List.replicate_succ]
  simp
theorem pfill_full (a b : List Int) (n : Nat) : pfill a b n n = prow a b n := by simp [pfill]
structure PlusW (w wr : World) (g n : Nat) (l : List Int) : Prop where
  below : Below w.heap.size w wr
  own : wr.ownsRow w.heap.size 28 1 (.slice (some ⟨g, 0, none⟩) n n) n (u64s l)
set_option maxHeartbeats 2000000 in
theorem wplus_any (A B : Option Addr) (ca cb : Nat) (a b : List Int) (w : World) (hla : a.length ≤ 1000000) (hab : b.length = a.length) (da : Words a) (db : Words b) (ha : Cells w A (u64s a)) (hb : Cells w B (u64s b)) :
    Calls Try.prog 17 #[.slice A a.length ca, .slice B b.length cb] w (GivesOwn 28 1 (wplus a b).length (u64s (wplus a b)) w) := by
  obtain ⟨i0, hi, hz0, hz1, hz2⟩ := info_parts info_u64
  obtain ⟨n, en⟩ : ∃ n, a.length = n := ⟨_, rfl⟩
  rw [wplus_length, hab, en]
  rw [en] at hla hab
  have EN := hid en
  have EB := hid hab
  have HA := hid ha
  have HB := hid hb
  clear en hab ha hb
  go_enter Try.func17, Try.ntmps17
  go_wp2_with (at_make; refine wpList_make_full _ rfl (.tmp 9) (.tmp 9) 46 rfl w.heap.size 28 i0 (.int .u64 0) 1 Try.underlying46 hi hz0 hz1 .i64 .i64 _ _ n rfl rfl rfl rfl ?_ ?_ (Nat.le_refl _) ?_; (· rw [hz2]; omega); (· unfold maxLen; omega); intro w2 hrow hg2; have hb2 := hid ((Below.refl w.heap.size w).grown hg2 (Nat.le_refl _) (fun _ h => by cases h)); have hrow := hid hrow; clear hg2)
  obtain ⟨g, hg⟩ : ∃ g, g = w.heap.size := ⟨_, rfl⟩
  have hrow2 := hid (show w2.ownsRow w.heap.size 28 1 (.slice (some ⟨g, 0, none⟩) n n) n (u64s (pfill a b n 0)) by
    have := hrow.out
    rw [← hg] at this ⊢
    simpa [u64s, toList_madeCells_one, Value.cells, pfill, prow] using this)
  clear hrow
  rw [← hg]
  have Hg := hid hg
  clear hg
  go_loopw [6, 13] (fun c j wr => ∃ (t : Nat), j = .int .i64 t ∧ t ≤ n ∧ c = .int .u64 (pcar a b t) ∧ Hid (PlusW w wr g n (pfill a b n t))) (fun _ j _ => n - (intOf j).toNat)
  case atStart => exact ⟨0, rfl, by omega, rfl, hid ⟨hb2.out, hrow2.out⟩⟩
  case round =>
    clear hrow2 hb2
    obtain ⟨t, rfl, ht, rfl, HW⟩ := hrel
    by_cases hlt : t < n
    · have hca := HA.out.below HW.out.below
      have hcb := HB.out.below HW.out.below
      obtain ⟨b1, o1, rfl, hc1⟩ := u64_at hca (show t < a.length by have := EN.out; omega)
      obtain ⟨b2, o2, rfl, hc2⟩ := u64_at hcb (show t < b.length by have := EB.out; omega)
      have e4 := fun w => add64_run (atD a t) (atD b t) (pcar a b t) (da.at t) (db.at t) (pcar_in da db t) w
      have hgw : g < wr.heap.size := (HW.out.own.lt g rfl).2
      have hlf := pfill_length a b (show t ≤ n by omega)
      have hp : wr.cell? ⟨g, t, none⟩ = some (.int .u64 (atD (pfill a b n t) t)) := by
        rw [HW.out.own.cellAt t (by omega)]
        simp [u64s, atD, show t < (pfill a b n t).length by omega]
      have hf := HW.out.own.frozenAt t
      clear hca hcb hlf
      have HS := HW.out.own.stored t (.int .u64 (pdig a b t))
      have eset : (u64s (pfill a b n t)).set t (.int .u64 (pdig a b t)) = u64s (pfill a b n (t + 1)) := by rw [← pfill_set a b hlt]; simp [u64s, List.map_set]
      rw [eset] at HS
      have HS := hid HS.1
      have HD := hid ((HW.out.below).setCell (p := ⟨g, t, none⟩) (by rw [Hg.out]; exact Nat.le_refl _) (.int .u64 (pdig a b t)))
      clear HW eset
      go_wp2_with fail
      go_region
      all_goals
        go_wp2_with fail
        go_roundw
        case rel => exact ⟨t + 1, by go_num, by omega, rfl, hid ⟨HD.out.drew, HS.out.drew⟩⟩
        case measure => simp [intOf]; omega
    · obtain rfl : t = n := by omega
      have HO := HW.out.own
      rw [pfill_full] at HO
      have HO := hid HO
      have HB2 := HW.out.below
      obtain ⟨x, rfl⟩ := past_of HB2
      clear HB2 HW
      go_wp2_with (at_builtin; refine wpList_push rfl (.tmp 33) (.tmp 35) 46 rfl 28 i0 (.int .u64 0) 1 8 Try.underlying46 hi hz0 hz1 hz2 rfl (by decide) (w0 := w) ?_ _ _ _ rfl (HO.out) _ (#[.int .u64 (pcar a b t)]) ?_ rfl rfl ?_ ?_ ?_ ?_; (· (repeat (first | exact Below.refl _ _ | refine RowKit.Below.past ?_ _ | refine RowKit.Below.alloc' ?_ _ | refine RowKit.Below.drew' ?_ | refine RowKit.Below.drewN' ?_ _ | refine RowKit.Below.setCell' ?_ (by simp [go_sem]) _))); (· simp [go_sem]); (· simp [Value.oneCell']); (· omega); (· (unfold maxLen; omega)); intro x1 g1 cap1 hown1)
      go_ret
      refine ⟨_, _, rfl, ?_, ?_⟩
      · (repeat (first | exact Below.refl _ _ | refine RowKit.Below.past ?_ _ | refine RowKit.Below.alloc' ?_ _ | refine RowKit.Below.drew' ?_ | refine RowKit.Below.drewN' ?_ _ | refine RowKit.Below.setCell' ?_ (by simp [go_sem]) _))
      · have e : u64s (wplus a b) = u64s (prow a b t) ++ [.int .u64 (pcar a b t)] := by rw [u64s_snoc, wplus, EN.out]
        rw [e]
        exact hown1
theorem wplus_n (A B : Option Addr) (ca cb : Nat) (a b : List Int) (n : Nat) (ea : a.length = n) (eb : b.length = n) (w : World) (hla : n ≤ 1000000) (da : Words a) (db : Words b) (ha : Cells w A (u64s a)) (hb : Cells w B (u64s b)) :
    Calls Try.prog 17 #[.slice A n ca, .slice B n cb] w (GivesOwn 28 1 (n + 1) (u64s (wplus a b)) w) := by
  subst ea
  have := wplus_any A B ca cb a b w hla eb da db ha hb
  rw [wplus_length, eb] at this
  exact this
theorem u64s_one (l : List Int) : ∀ u ∈ u64s l, u.oneCell' = true := by
  intro u hu
  simp only [u64s, List.mem_map] at hu
  obtain ⟨x, _, rfl⟩ := hu
  rfl
set_option maxHeartbeats 1000000 in
theorem wclone_any (A : Option Addr) (ca : Nat) (a : List Int) (w : World) (h0 : 0 < a.length) (hla : a.length ≤ 1000000) (ha : Cells w A (u64s a)) :
    Calls Try.prog 26 #[.slice A a.length ca] w (GivesOwn 28 1 a.length (u64s a) w) := by
  obtain ⟨i0, hi, hz0, hz1, hz2⟩ := info_parts info_u64
  obtain ⟨b1, o1, rfl, _⟩ := u64_at ha h0
  have HA := hid ha
  have he : ∀ w : World, (binOp .eql 46 (.slice (some ⟨b1, o1, none⟩) a.length ca) (.slice none 0 0)).run Try.prog w = .ok (.bool false) w := fun _ => rfl
  clear ha
  go_enter Try.func26, Try.ntmps26
  have hnews : ∀ j u, (u64s a)[j]? = some u → (w.alloc (.cells #[] 28)).cell? ((⟨b1, o1, none⟩ : Addr).add j) = some u := by
    intro j u hj
    obtain ⟨b, off, e, hc⟩ := (HA.out.alloc (.cells #[] 28)) (by intro e; rw [e] at hj; simp at hj)
    injection e with e
    injection e with e1 e2
    subst e1; subst e2
    have ea : (⟨b1, o1, none⟩ : Addr).add j = ⟨b1, o1 + j, none⟩ := by unfold Addr.add; split <;> simp_all
    rw [ea]
    exact hc j u hj
  have HN := hid hnews
  clear hnews
  go_wp2_with (at_builtin; refine wpList_append_own_at _ rfl (.tmp 5) (.tmp 6) 46 rfl w.heap.size 28 i0 (.int .u64 0) 1 8 Try.underlying46 hi hz0 hz1 hz2 rfl (by decide) _ 0 [] rfl (World.ownsRow_lit (base := w.heap.size) (size := 1) w #[] 0 (Nat.le_refl _) (by unfold maxLen; omega) rfl) ⟨b1, o1, none⟩ a.length ca (u64s a) (by rfl) (by simp) HN.out (u64s_one a) (by unfold maxLen; omega) (by omega) (by simp) ?_; intro v' w1 hown' hgrow _ _)
  simp only [Nat.zero_add, List.nil_append] at hown'
  obtain ⟨A', cap', rfl⟩ := own_shape hown'
  have HO := hid hown'
  have hb := ((Below.refl w.heap.size w).alloc (Nat.le_refl _) (.cells #[] 28)).grown hgrow (by simp) (fun k hk => by have e : some w.heap.size = some k := hk; injection e with e; omega)
  have HB := hid hb
  clear hown' hgrow hb
  go_wp2
  go_ret
  exact ⟨A', cap', rfl, HB.out, HO.out⟩
theorem wclone_n (A : Option Addr) (ca : Nat) (a : List Int) (n : Nat) (en : a.length = n) (w : World) (h0 : 0 < n) (hla : n ≤ 1000000) (ha : Cells w A (u64s a)) :
    Calls Try.prog 26 #[.slice A n ca] w (GivesOwn 28 1 n (u64s a) w) := by subst en; exact wclone_any A ca a w h0 hla ha
/-! What words come to. -/
def wvN (f : Nat → Int) : Nat → Int
  | 0 => 0
  | n + 1 => wvN f n + f n * 18446744073709551616 ^ n
def wv (l : List Int) : Int := wvN (atD l) l.length
theorem wvN_more (l : List Int) : ∀ m, wvN (atD l) (l.length + m) = wv l := by
  intro m
  induction m with
  | zero => rfl
  | succ m ih =>
    rw [← Nat.add_assoc, wvN, ih, atD, List.getElem?_eq_none (by omega)]
    simp
theorem wvN_ge (l : List Int) {n : Nat} (h : l.length ≤ n) : wvN (atD l) n = wv l := by
  have := wvN_more l (n - l.length)
  rwa [show l.length + (n - l.length) = n by omega] at this
theorem wvN_congr {f g : Nat → Int} : ∀ n, (∀ i, i < n → f i = g i) → wvN f n = wvN g n := by
  intro n
  induction n with
  | zero => intro _; rfl
  | succ n ih => intro h; rw [wvN, wvN, ih (fun i hi => h i (by omega)), h n (by omega)]
theorem wpow (n : Nat) : (1 : Int) ≤ 18446744073709551616 ^ n := Int.pow_pos (by omega)
theorem wvN_in {f : Nat → Int} (h : ∀ i, U64 (f i)) : ∀ n, 0 ≤ wvN f n ∧ wvN f n < 18446744073709551616 ^ n := by
  intro n
  induction n with
  | zero => simp [wvN]
  | succ n ih =>
    obtain ⟨p, q⟩ := h n
    have a := Int.mul_nonneg p (show (0 : Int) ≤ 18446744073709551616 ^ n from Int.pow_nonneg (by omega))
    have b := Int.mul_le_mul_of_nonneg_right (show f n ≤ 18446744073709551615 by omega) (show (0 : Int) ≤ 18446744073709551616 ^ n from Int.pow_nonneg (by omega))
    rw [wvN, Int.pow_succ]
    omega
theorem wvN_top {f g : Nat → Int} (hf : ∀ i, U64 (f i)) (hg : ∀ i, U64 (g i)) {k : Nat} (hk : f k < g k) : ∀ n, k < n → (∀ j, k < j → j < n → f j = g j) → wvN f n < wvN g n := by
  intro n
  induction n with
  | zero => intro h; omega
  | succ n ih =>
    intro hlt hj
    rw [wvN, wvN]
    by_cases e : k = n
    · subst e
      have a := (wvN_in hf k).2
      have b := (wvN_in hg k).1
      have c := Int.mul_le_mul_of_nonneg_right (show f k + 1 ≤ g k by omega) (show (0 : Int) ≤ 18446744073709551616 ^ k from Int.pow_nonneg (by omega))
      rw [Int.add_mul] at c
      omega
    · have := ih (by omega) (fun j h1 h2 => hj j h1 (by omega))
      rw [hj n (by omega) (by omega)]
      omega
theorem wdig_val (a : List Int) (y : Int) : ∀ n, wvN (wdig a y) n + wcar a y n * 18446744073709551616 ^ n = wvN (atD a) n * y := by
  intro n
  induction n with
  | zero => simp [wvN, wcar]
  | succ n ih =>
    have e : wdig a y n + wcar a y (n + 1) * 18446744073709551616 = atD a n * y + wcar a y n := by
      simp only [wdig, wcar]; omega
    simp only [wvN]
    rw [Int.pow_succ, ← Int.mul_assoc, Int.mul_right_comm (wcar a y (n + 1)), Int.add_mul _ _ y]
    have e2 : (wdig a y n + wcar a y (n + 1) * 18446744073709551616) * 18446744073709551616 ^ n = (atD a n * y + wcar a y n) * 18446744073709551616 ^ n := by rw [e]
    simp only [Int.add_mul] at e2
    rw [Int.mul_right_comm (atD a n) _ y]
    omega
theorem wtimes_val (a : List Int) (y : Int) : wv (wtimes a y) = wv a * y := by
  have h := wdig_val a y a.length
  rw [wv, wtimes_length, wvN, wvN_congr (g := wdig a y) _ (fun i hi => by simp [wtimes, wrow, atD, List.getElem?_append, hi])]
  have e : atD (wtimes a y) a.length = wcar a y a.length := by simp [wtimes, wrow, atD]
  rw [e]
  exact h
theorem pdig_val (a b : List Int) : ∀ n, wvN (pdig a b) n + pcar a b n * 18446744073709551616 ^ n = wvN (atD a) n + wvN (atD b) n := by
  intro n
  induction n with
  | zero => simp [wvN, pcar]
  | succ n ih =>
    have e : pdig a b n + pcar a b (n + 1) * 18446744073709551616 = atD a n + atD b n + pcar a b n := by
      simp only [pdig, pcar, sumF, carF, top64]; omega
    simp only [wvN]
    rw [Int.pow_succ, ← Int.mul_assoc, Int.mul_right_comm (pcar a b (n + 1))]
    have e2 : (pdig a b n + pcar a b (n + 1) * 18446744073709551616) * 18446744073709551616 ^ n = (atD a n + atD b n + pcar a b n) * 18446744073709551616 ^ n := by rw [e]
    simp only [Int.add_mul] at e2
    omega
theorem wplus_val (a b : List Int) (h : b.length = a.length) : wv (wplus a b) = wv a + wv b := by
  have k := pdig_val a b a.length
  rw [wv, wplus_length, wvN, wvN_congr (g := pdig a b) _ (fun i hi => by simp [wplus, prow, atD, List.getElem?_append, hi])]
  have e : atD (wplus a b) a.length = pcar a b a.length := by simp [wplus, prow, atD]
  have e2 : wv b = wvN (atD b) a.length := by rw [wv, h]
  rw [e, e2]
  exact k
theorem atD_zeros (a : List Int) (k i : Nat) : atD (a ++ List.replicate k 0) i = atD a i := by
  unfold atD
  rw [List.getElem?_append]
  by_cases h : i < a.length
  · rw [if_pos h]
  · rw [if_neg h, List.getElem?_eq_none (l := a) (by omega)]
    by_cases h2 : i - a.length < k
    · rw [List.getElem?_replicate, if_pos h2]; rfl
    · rw [List.getElem?_replicate, if_neg h2]
theorem wv_zeros (a : List Int) (k : Nat) : wv (a ++ List.replicate k 0) = wv a := by
  rw [wv, List.length_append, List.length_replicate, wvN_congr (g := atD a) _ (fun i _ => atD_zeros a k i)]
  exact wvN_ge a (by omega)
theorem words_zeros {a : List Int} (h : Words a) (k : Nat) : Words (a ++ List.replicate k 0) := by
  intro x hx
  rcases List.mem_append.1 hx with hx | hx
  · exact h x hx
  · rw [List.eq_of_mem_replicate hx]; exact ⟨by omega, by omega⟩
def wgt (a b : List Int) : Bool := decide (wv b < wv a)
theorem u64s_zeros (a : List Int) (k : Nat) : u64s a ++ List.replicate k (.int .u64 0) = u64s (a ++ List.replicate k 0) := by simp [u64s]
set_option maxHeartbeats 2000000 in
theorem wabove_any (A B : Option Addr) (ca cb : Nat) (a b : List Int) (n m : Nat) (en : a.length = n) (em : b.length = m) (w : World) (ha0 : 0 < n) (hb0 : 0 < m) (hla : n ≤ 10000) (hlb : m ≤ 10000) (da : Words a) (db : Words b) (ha : Cells w A (u64s a)) (hb : Cells w B (u64s b)) :
    Calls Try.prog 18 #[.slice A n ca, .slice B m cb] w (Gives (.bool (wgt a b)) w) := by
  obtain ⟨i0, hi, hz0, hz1, hz2⟩ := info_parts info_u64
  have HA := hid ha
  have HB := hid hb
  clear ha hb
  obtain ⟨M, eM⟩ : ∃ M, max n m = M := ⟨_, rfl⟩
  have h1 : n ≤ M := by omega
  have h2 : m ≤ M := by omega
  have h3 : M ≤ 10000 := by omega
  have EN := hid en
  have EM := hid em
  have EX := hid eM
  have e1 : IntKind.i64.wrap ((M : Int) - (n : Int)) = ((M - n : Nat) : Int) := by rw [IntKind.wrap_i64]; omega
  have e2 : IntKind.i64.wrap ((M : Int) - (m : Int)) = ((M - m : Nat) : Int) := by rw [IntKind.wrap_i64]; omega
  clear en em eM
  go_enter Try.func18, Try.ntmps18
  go_upto_region 1 with fail
  go_cut [5] from 7 to 11 (fun v wx => v = .int .i64 (M : Int) ∧ w = wx)
  case first =>
    go_wp2_with fail
    all_goals
      go_meet
      case rel => exact ⟨congrArg (Value.int .i64) (by have := EX.out; omega), rfl⟩
  case rest =>
    obtain ⟨rfl, rfl⟩ := hcut
    go_wp2_with fail
    refine (wclone_n A ca a n EN.out w ha0 (by omega) HA.out).mono ?_
    rintro _ w1 ⟨A1, c1, rfl, hb1, ho1⟩
    have HB1 := hid hb1
    have HO1 := hid ho1
    clear hb1 ho1
    go_wp2_with (at_builtin; go_must (refine wpList_zeros rfl (.tmp 13) (.tmp 17) 46 3 rfl w.heap.size 28 i0 (.int .u64 0) .i64 8 Try.underlying46 Try.underlying3 hi hz0 hz1 hz2 rfl rfl (.slice A1 n c1) n (u64s a) rfl HO1.out (M - n) ?_ ?_ ?_ HB1.out.size ?_); (· rfl); (· unfold maxLen; omega); (· omega); intro w2 A2 c2 ho2 hg2 _)
    rw [show n + (M - n) = M by omega, u64s_zeros] at ho2
    have HB2 := hid (HB1.out.grown hg2 HB1.out.size (fun k hk => (HO1.out.lt k hk).1))
    have HO2 := hid ho2
    clear ho2 hg2 HO1 HB1
    refine (wclone_n B cb b m EM.out w2 hb0 (by omega) (HB.out.below HB2.out)).mono ?_
    rintro _ w3 ⟨B1, c3, rfl, hb3, ho3⟩
    have HB3 := hid hb3
    have HO3 := hid ho3
    clear hb3 ho3
    go_wp2_with (at_builtin; go_must (refine wpList_zeros rfl (.tmp 20) (.tmp 24) 46 3 rfl w2.heap.size 28 i0 (.int .u64 0) .i64 8 Try.underlying46 Try.underlying3 hi hz0 hz1 hz2 rfl rfl (.slice B1 m c3) m (u64s b) rfl HO3.out (M - m) ?_ ?_ ?_ HB3.out.size ?_); (· rfl); (· unfold maxLen; omega); (· omega); intro w4 B2 c4 ho4 hg4 _)
    rw [show m + (M - m) = M by omega, u64s_zeros] at ho4
    have hb4 := HB3.out.grown hg4 HB3.out.size (fun k hk => (HO3.out.lt k hk).1)
    have HB4 := hid (below_trans' HB2.out hb4)
    have CA := hid (Cells.of_own (own_below HO2.out hb4 (Nat.le_refl _)))
    have CB := hid (Cells.of_own ho4)
    clear hb4 ho4 hg4 HO3 HB3 HO2 HB2
    go_loopw [6] (fun i wr => ∃ (k : Nat) (x : Past), i = .int .i64 ((k : Int) - 1) ∧ k ≤ M ∧ wr = w4.past x ∧ Hid (∀ j, k ≤ j → j < M → atD a j = atD b j)) (fun i _ => (intOf i + 1).toNat)
    case atStart => exact ⟨M, _, by go_num, Nat.le_refl _, World.past_refl _, hid (fun j h1 h2 => by omega)⟩
    case round =>
      obtain ⟨k, x, rfl, hk, rfl, HJ⟩ := hrel
      cases k with
      | zero =>
        have hz : wgt a b = false := by
          have e : wv a = wv b := by
            rw [← wvN_ge a (n := M) (by have := EN.out; omega), ← wvN_ge b (n := M) (by have := EM.out; omega)]
            exact wvN_congr _ (fun j hj => HJ.out j (by omega) hj)
          simp [wgt, e]
        go_wp2
        go_ret
        exact Gives.mk (by rw [hz]; rfl) (RowKit.Below.past HB4.out x)
      | succ k =>
        have ek : ((k + 1 : Nat) : Int) - 1 = (k : Int) := by omega
        rw [ek]
        have la : (a ++ List.replicate (M - n) 0).length = M := by have := EN.out; simp; omega
        have lb : (b ++ List.replicate (M - m) 0).length = M := by have := EM.out; simp; omega
        obtain ⟨b1, o1, rfl, hc1⟩ := u64_at CA.out (show k < _ by rw [la]; omega)
        obtain ⟨b2, o2, rfl, hc2⟩ := u64_at CB.out (show k < _ by rw [lb]; omega)
        rw [atD_zeros] at hc1 hc2
        clear la lb
        rcases bne_cases (atD a k) (atD b k) with hne | hne
        · have hz : wgt a b = decide (atD b k < atD a k) := by
            have hne' : atD a k ≠ atD b k := by simpa using hne
            unfold wgt
            rw [← wvN_ge a (n := M) (by have := EN.out; omega), ← wvN_ge b (n := M) (by have := EM.out; omega)]
            by_cases hlt : atD b k < atD a k
            · have := wvN_top db.at da.at hlt M (by omega) (fun j h1 h2 => (HJ.out j (by omega) h2).symm)
              simp [this, hlt]
            · have := wvN_top da.at db.at (show atD a k < atD b k by omega) M (by omega) (fun j h1 h2 => HJ.out j (by omega) h2)
              have h' : ¬ wvN (atD b) M < wvN (atD a) M := by omega
              simp [h', hlt]
          have HZ := hid hz
          clear hz
          go_wp2_with fail
          refine wp_region_past (by kernel_rfl) (by kernel_rfl) ?_
          repeat (go_big_quiet_step ((fail)))
          refine wpQuiet_nil ?_
          rintro _ ⟨_, rfl⟩
          go_wp2_with fail
          refine wp_region_past (by kernel_rfl) (by kernel_rfl) ?_
          repeat (go_big_quiet_step ((fail)))
          refine wpQuiet_nil ?_
          rintro _ ⟨_, rfl⟩
          go_wp2
          go_ret
          refine Gives.mk (by rw [HZ.out]; rfl) ?_
          exact RowKit.Below.past (RowKit.Below.past (RowKit.Below.past HB4.out _) _) _
        · have he : atD a k = atD b k := by simpa using hne
          have HE := hid he
          clear he
          go_wp2_with fail
          refine wp_region_past (by kernel_rfl) (by kernel_rfl) ?_
          repeat (go_big_quiet_step ((fail)))
          refine wpQuiet_nil ?_
          rintro _ ⟨_, rfl⟩
          go_wp2_with fail
          go_roundw
          case rel => exact ⟨k, _, by go_num, by omega, rfl, hid (fun j h1 h2 => by
            by_cases e : j = k
            · subst e; exact HE.out
            · exact HJ.out j (by omega) h2)⟩
          case measure => simp [intOf]
end Go.Proofs.Ytmkndabbkceknaa
