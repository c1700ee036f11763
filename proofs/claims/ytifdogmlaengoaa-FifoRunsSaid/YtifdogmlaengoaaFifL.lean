/-
  Layer 05: the document's queue: At, Take. No condition.
-/
import Derived.Test.YtifdogmlaengoaaFifK
import Derived.Test.YtifdogmlaengoaaAppC
namespace Go.Proofs.Ytifdogmlaengoaa
open Go.RowKit
attribute [local go_sem] Oper.semAt_some
theorem it_at {w : World} {A : Option Addr} {L : List (Int × Int)} (h : Cells w A (tab itV L)) {k : Nat} {x : Int × Int} (hx : L[k]? = some x) : ∃ g o : Nat, A = some ⟨g, o, none⟩ ∧ w.cell? ⟨g, o + k * 2, none⟩ = some (.int .i64 x.1) ∧ w.cell? ⟨g, o + k * 2 + 1, none⟩ = some (.int .i64 x.2) := by
  obtain ⟨g, o, e, hc⟩ := h.tab_at itV_length hx (by omega)
  exact ⟨g, o, e, hc 0 _ rfl, hc 1 _ rfl⟩
theorem tab_one (l : List (Int × Int)) : ∀ u ∈ tab itV l, u.oneCell' = true := by
  intro u hu
  simp only [tab, List.mem_flatMap] at hu
  obtain ⟨x, _, hx⟩ := hu
  simp [itV] at hx
  rcases hx with rfl | rfl <;> rfl
theorem tab_drop {α : Type} {f : α → List Value} {c : Nat} (hf : ∀ x, (f x).length = c) (l : List α) (m : Nat) : (tab f l).drop (m * c) = tab f (l.drop m) := by
  have h1 : tab f l = tab f (l.take m) ++ tab f (l.drop m) := by
    have h2 : tab f (l.take m ++ l.drop m) = tab f (l.take m) ++ tab f (l.drop m) := by simp only [tab, List.flatMap_append]
    rw [← h2, List.take_append_drop]
  by_cases hm : m ≤ l.length
  · rw [h1, List.drop_append_of_le_length (by rw [tab_length hf, List.length_take]; exact Nat.mul_le_mul_right _ (by omega)), List.drop_eq_nil_of_le (by rw [tab_length hf, List.length_take]; exact Nat.mul_le_mul_right _ (by omega)), List.nil_append]
  · rw [List.drop_eq_nil_of_le (by rw [tab_length hf]; exact Nat.mul_le_mul_right _ (by omega)), List.drop_eq_nil_of_le (by omega)]
    rfl
theorem tab_take {α : Type} {f : α → List Value} {c : Nat} (hf : ∀ x, (f x).length = c) (l : List α) (m : Nat) : (tab f l).take (m * c) = tab f (l.take m) := by
  have h1 : tab f l = tab f (l.take m) ++ tab f (l.drop m) := by
    have h2 : tab f (l.take m ++ l.drop m) = tab f (l.take m) ++ tab f (l.drop m) := by simp only [tab, List.flatMap_append]
    rw [← h2, List.take_append_drop]
  by_cases hm : m ≤ l.length
  · rw [h1, List.take_append_of_le_length (by rw [tab_length hf, List.length_take]; exact Nat.mul_le_mul_right _ (by omega)), List.take_of_length_le (by rw [tab_length hf, List.length_take]; exact Nat.mul_le_mul_right _ (by omega))]
  · rw [List.take_of_length_le (by rw [tab_length hf]; exact Nat.mul_le_mul_right _ (by omega)), List.take_of_length_le (by omega)]
/-- Where a ticket is; below 0. -/
def atF (L : List (Int × Int)) (t : Int) : Int := match L.findIdx? (fun x => x.1 == t) with | some i => (i : Int) | none => -1
theorem atF_cases (L : List (Int × Int)) (t : Int) : (atF L t = -1 ∧ ∀ x ∈ L, x.1 ≠ t) ∨ ∃ (i : Nat) (x : Int × Int), atF L t = i ∧ L[i]? = some x ∧ x.1 = t := by
  unfold atF
  cases h : L.findIdx? (fun x => x.1 == t) with
  | none =>
    refine .inl ⟨rfl, fun x hx => ?_⟩
    have := List.findIdx?_eq_none_iff.1 h x hx
    simpa using this
  | some i =>
    obtain ⟨hi, h1, _⟩ := List.findIdx?_eq_some_iff_getElem.1 h
    exact .inr ⟨i, L[i], rfl, List.getElem?_eq_getElem hi, by simpa using h1⟩
theorem atF_here {L : List (Int × Int)} {t : Int} {k : Nat} {x : Int × Int} (hx : L[k]? = some x) (ht : x.1 = t) (hb : ∀ (j : Nat) (y : Int × Int), j < k → L[j]? = some y → y.1 ≠ t) : atF L t = k := by
  have hi := (List.getElem?_eq_some_iff.1 hx)
  have : L.findIdx? (fun x => x.1 == t) = some k := by
    rw [List.findIdx?_eq_some_iff_getElem]
    refine ⟨hi.1, by rw [hi.2]; simpa using ht, fun j hj => ?_⟩
    have := hb j (L[j]'(by have := hi.1; omega)) hj (List.getElem?_eq_getElem (by have := hi.1; omega))
    simpa using this
  unfold atF; rw [this]
theorem atF_none {L : List (Int × Int)} {t : Int} (h : ∀ (j : Nat) (y : Int × Int), L[j]? = some y → y.1 ≠ t) : atF L t = -1 := by
  have : L.findIdx? (fun x => x.1 == t) = none := by
    rw [List.findIdx?_eq_none_iff]
    intro x hx
    obtain ⟨j, hj, rfl⟩ := List.getElem_of_mem hx
    have := h j _ (List.getElem?_eq_getElem hj)
    simpa using this
  unfold atF; rw [this]
def natJ2 : Value → Nat | .int _ z => z.toNat | _ => 0
set_option maxHeartbeats 1000000 in
theorem DAt_any {B : Nat} {w : World} {r : Nat} {F : Nat → Prop} {most tk : Int} {L : List (Int × Int)} (h : DA B w r F most tk L) (hl : L.length ≤ 4096) (t : Int) :
    Calls Try.prog 16 #[.pointer (some ⟨r, 0, none⟩), .int .i64 t] w (Gives (.int .i64 (atF L t)) w) := by
  obtain ⟨A, c, q0, q1, q2, hrl, hc⟩ := h.cells
  obtain ⟨n, en⟩ : ∃ n, L.length = n := ⟨_, rfl⟩
  have EN := hid en
  have HC := hid hc
  rw [en] at q2 hl
  clear h hc q0 q1 en
  go_enter Try.func16, Try.ntmps16
  go_wp2
  go_loop [5] (fun i => ∃ k : Nat, i = .int .i64 (k : Int) ∧ k ≤ n ∧ Hid (∀ (j : Nat) (y : Int × Int), j < k → L[j]? = some y → y.1 ≠ t)) (fun i => n - natJ2 i)
  case atStart => exact ⟨0, rfl, by omega, hid (fun _ _ h => absurd h (by omega))⟩
  case round =>
    obtain ⟨k, rfl, hk, hR⟩ := hrel
    by_cases hlt : k < n
    · obtain ⟨x, hx⟩ : ∃ x, L[k]? = some x := ⟨_, List.getElem?_eq_getElem (by rw [EN.out]; exact hlt)⟩
      obtain ⟨g, o, rfl, c1, -⟩ := it_at HC.out hx
      have HX := hid hx
      clear hx
      by_cases he : x.1 = t
      · have d : (x.1 == t) = true := by simp [he]
        have HE := hid he
        clear he
        go_wp2_with fail
        go_ret
        refine Gives.mk ?_ (Below.refl _ _)
        rw [atF_here HX.out HE.out hR.out]
        rfl
      · have d : (x.1 == t) = false := by simp [he]
        have HE := hid he
        clear he
        go_wp2_with fail
        go_round
        case rel => exact ⟨k + 1, by go_num, by omega, hid (fun j y hj hy => by
          by_cases e : j = k
          · subst e
            rw [HX.out] at hy
            injection hy with hy
            subst hy
            exact HE.out
          · exact hR.out j y (by omega) hy)⟩
        case measure => simp [natJ2]; omega
    · obtain rfl : k = n := by omega
      go_wp2_with fail
      go_ret
      refine Gives.mk ?_ (Below.refl _ _)
      rw [atF_none (fun j y hy => hR.out j y (by have := (List.getElem?_eq_some_iff.1 hy).1; rw [EN.out] at this; exact this) hy)]
      rfl
set_option maxHeartbeats 1000000 in
theorem DTakeN_any {B : Nat} {w : World} {r : Nat} {F : Nat → Prop} {most tk : Int} {L : List (Int × Int)} (h : DA B w r F most tk L) (i : Int) (hi : i < 0 ∨ (L.length : Int) ≤ i) :
    Calls Try.prog 14 #[.pointer (some ⟨r, 0, none⟩), .int .i64 i] w (Gives (.tuple #[.int .i64 0, .bool false]) w) := by
  obtain ⟨A, c, q0, q1, q2, hrl, hc⟩ := h.cells
  obtain ⟨n, en⟩ : ∃ n, L.length = n := ⟨_, rfl⟩
  rw [en] at q2 hi
  clear h hc q0 q1 en
  have hcase : i < 0 ∨ (¬ i < 0 ∧ (n : Int) ≤ i) := by omega
  clear hi
  rcases hcase with h1 | ⟨h1, h2⟩
  all_goals
    go_enter Try.func14, Try.ntmps14
    go_wp2
    go_ret2
    exact Gives.refl rfl
set_option maxRecDepth 100000 in
set_option maxHeartbeats 4000000 in
theorem DTake_any {B : Nat} {w : World} {r : Nat} {F : Nat → Prop} {most tk : Int} {L : List (Int × Int)} (h : DA B w r F most tk L) (hB : B ≤ w.heap.size) (hl : L.length ≤ 4096) {i : Nat} {x : Int × Int} (hx : L[i]? = some x) :
    Calls Try.prog 14 #[.pointer (some ⟨r, 0, none⟩), .int .i64 (i : Int)] w (fun e w' => e = .returned (.tuple #[.int .i64 x.2, .bool true]) ∧ DR B r F most tk (L.eraseIdx i) w w') := by
  have H := hid h
  obtain ⟨j0, ji, jz0, jz1, jz2⟩ := info_parts info_ritem
  have HJ := hid ji
  obtain ⟨hi, hxe⟩ := List.getElem?_eq_some_iff.1 hx
  obtain ⟨A, c, hrec, hown, hF⟩ := h.ex
  have hcap := own_fits hown
  obtain ⟨g, cap, eA, hg⟩ := own_succ hown (by omega)
  cases eA
  have i1 := (it_at (Cells.of_own hown) hx)
  obtain ⟨g', o', e', i0, i1⟩ := i1
  injection e' with e'
  injection e' with e1' e2' _
  subst e1'; subst e2'
  rw [Nat.zero_add] at i0 i1
  obtain ⟨n, en⟩ : ∃ n, L.length = n := ⟨_, rfl⟩
  have EN := hid en
  have q2 := Rec.cell hrec 2
  have f2 := Rec.frozen hrec 2
  simp at q2
  rw [en] at q2 hi hl hcap hrec hown hF
  have hbl := hrec.lt
  have hgl : g < w.heap.size := World.block_lt_of_cell? w _ i0
  obtain ⟨s, es⟩ : ∃ s, w.heap.size = s := ⟨_, rfl⟩
  have ES := hid es
  rw [es] at hbl hgl
  have hil : (i : Int) < n := by omega
  have hi0 : ¬ (i : Int) < 0 := by omega
  have hi2 : ¬ (n : Int) ≤ (i : Int) := by omega
  have e1 : IntKind.i64.wrap ((i : Int) + 1) = ((i + 1 : Nat) : Int) := by rw [IntKind.wrap_i64] <;> omega
  obtain ⟨j, ej⟩ : ∃ j, i + 1 = j := ⟨_, rfl⟩
  rw [ej] at e1
  have hjn : j ≤ n := by omega
  have hic : i ≤ c := by omega
  have hin : i ≤ n := by omega
  have EJ := hid ej
  have HLN := hid hl
  have HM := hid (show i + (n - j) = n - 1 by have := EJ.out; omega)
  have HT1 := hid (show (tab itV (L.take i)).length = i * 2 by rw [tab_length itV_length, List.length_take]; congr 1; have := EN.out; omega)
  have HT2 := hid (show (tab itV (L.drop j)).length = (n - j) * 2 by rw [tab_length itV_length, List.length_drop]; congr 1; have := EN.out; omega)
  obtain ⟨V, eV⟩ : ∃ V, V = (w.alloc (.cells #[] tRI)).drew := ⟨_, rfl⟩
  have hbV : Below w.heap.size w V := by rw [eV]; exact ((Below.refl _ w).alloc (Nat.le_refl _) _).drew
  have HLIT := hid (show V.ownsRow s tRI 2 (.slice (some ⟨s, 0, none⟩) 0 0) 0 [] from by
    have h5 := World.ownsRow_lit (base := s) (size := 2) (e := tRI) w #[] 0 (by omega) (by unfold maxLen; omega) rfl
    rw [es] at h5
    rw [eV]
    exact h5.drew)
  have hownV := own_below hown hbV (Nat.le_refl _)
  have hrecV := hrec.below hbV (Nat.le_refl _)
  have HC1 := hid (show Cells V (some ⟨g, 0, none⟩) (tab itV (L.take i)) from by
    rw [← tab_take itV_length]
    exact (Cells.of_own hownV).take _)
  have hbs : r ≠ s := by omega
  have hgs : g ≠ s := by omega
  have HN6 := hid (show ∀ (w6 : World) (A6 : Option Addr) (c6 : Nat), w6.ownsRow s tRI 2 (.slice A6 i c6) i ([] ++ tab itV (L.take i)) → V.grownBy w6 (Value.slice (some ⟨s, 0, none⟩) 0 0).ownBlock →
      Hid (w6.ownsRow s tRI 2 (.slice A6 i c6) i (tab itV (L.take i)) ∧ Rec w6 r tRQ #[.int .i64 most, .int .i64 tk, .slice (some ⟨g, 0, none⟩) n c] ∧ Cells w6 (some ⟨g, j * 2, none⟩) (tab itV (L.drop j)) ∧ Below s w w6) ∧
      w6.cell? ⟨r, 2, none⟩ = some (.slice (some ⟨g, 0, none⟩) n c) ∧ w6.frozen? ⟨r, 2, none⟩ = false ∧ r < w6.heap.size ∧ s ≤ w6.heap.size from by
    intro w6 A6 c6 ho hg
    have hr6 : Rec w6 r tRQ #[.int .i64 most, .int .i64 tk, .slice (some ⟨g, 0, none⟩) n c] := (hg.block r hrecV.lt (by simp [Value.ownBlock]; omega)).trans hrecV
    have hb6 : Below s w w6 := by
      refine Below.grown (by rw [← es]; exact hbV) hg (by have := hbV.size; omega) (fun k hk => ?_)
      simp only [Value.ownBlock, Option.some.injEq] at hk
      omega
    have hcl := Cells.drop (Cells.of_own (own_apart hownV hg (.inr (.inr (by simp [Value.ownBlock]; omega))))) (j * 2)
    rw [tab_drop itV_length, Nat.zero_add] at hcl
    exact ⟨hid ⟨by simpa using ho, hr6, hcl, hb6⟩, by rw [Rec.cell hr6]; rfl, Rec.frozen hr6 2, hr6.lt, by have := hb6.size; omega⟩)
  have HN8 := hid (show ∀ (w6 : World) (A6 : Option Addr) (c6 : Nat) (w8 : World) (A8 : Option Addr) (c8 : Nat), Hid (w6.ownsRow s tRI 2 (.slice A6 i c6) i (tab itV (L.take i)) ∧ Rec w6 r tRQ #[.int .i64 most, .int .i64 tk, .slice (some ⟨g, 0, none⟩) n c] ∧ Cells w6 (some ⟨g, j * 2, none⟩) (tab itV (L.drop j)) ∧ Below s w w6) →
      w8.ownsRow s tRI 2 (.slice A8 (n - 1) c8) (n - 1) (tab itV (L.take i) ++ tab itV (L.drop j)) → w6.grownBy w8 (Value.slice A6 i c6).ownBlock →
      Hid (w8.ownsRow s tRI 2 (.slice A8 (n - 1) c8) (n - 1) (tab itV (L.eraseIdx i)) ∧ Rec w8 r tRQ #[.int .i64 most, .int .i64 tk, .slice (some ⟨g, 0, none⟩) n c] ∧ Below s w w8) ∧
      w8.cell? ⟨r, 2, none⟩ = some (.slice (some ⟨g, 0, none⟩) n c) ∧ w8.frozen? ⟨r, 2, none⟩ = false ∧ r < w8.heap.size from by
    intro w6 A6 c6 w8 A8 c8 h6 ho hg
    obtain ⟨o6, r6, -, b6⟩ := h6.out
    have hr8 := Rec.grown r6 o6 hg (by decide)
    have hb8 := b6.grown hg (by have := b6.size; omega) (fun k hk => (o6.lt k hk).1)
    refine ⟨hid ⟨?_, hr8, hb8⟩, by rw [Rec.cell hr8]; rfl, Rec.frozen hr8 2, hr8.lt⟩
    have e : tab itV (L.take i) ++ tab itV (L.drop j) = tab itV (L.eraseIdx i) := by
      have h2 : tab itV (L.take i ++ L.drop j) = tab itV (L.take i) ++ tab itV (L.drop j) := by simp only [tab, List.flatMap_append]
      rw [← h2, List.eraseIdx_eq_take_drop_succ, EJ.out]
    rw [← e]; exact ho)
  have HC2 := hid (show ∀ w6 : World, Cells w6 (some ⟨g, j * 2, none⟩) (tab itV (L.drop j)) → Cells w6 (if c = j then some ⟨g, 0, none⟩ else some ⟨g, j * 2, none⟩) (tab itV (L.drop j)) from fun w6 h => by
    by_cases hcj : c = j
    · rw [show L.drop j = [] from List.drop_eq_nil_of_le (by have := EN.out; omega)]
      exact Cells.nil _ _
    · rw [if_neg hcj]; exact h)
  have HF := hid hF
  have EV := hid eV
  have HE := hid (show (L.eraseIdx i).length = n - 1 by rw [List.length_eraseIdx_of_lt (by rw [EN.out]; exact hi), EN.out])
  clear h hx hrec hown hF eV hbV hownV hrecV en hxe ej ji i0
  go_enter Try.func14, Try.ntmps14
  go_wp2_with fail
  clear i1
  go_region_law (first | (refine step_appB rfl (.tmp 27) (.tmp 33) 48 rfl tRI j0 (.agg #[.int .i64 0, .int .i64 0]) 2 16 Try.underlying48 HJ.out jz0 jz1 jz2 rfl (by decide) s ?_ (.slice (some ⟨s, 0, none⟩) 0 0) 0 [] ?_ ?_ (some ⟨g, 0, none⟩) i c (tab itV (L.take i)) ?_ ?_ ?_ ?_ ?_ ?_ ?_; (· simp [go_sem]; omega); (· simp [go_sem, ES.out]); (· rw [← EV.out]; exact HLIT.out); (· rfl); (· exact HT1.out); (· rw [← EV.out]; exact HC1.out); (· exact tab_one _); (· have := HLN.out; unfold maxLen; omega); (· have := HLN.out; omega); intro w6 A6 c6 ho6 hg6 hap6; clear hap6; rw [Nat.zero_add] at ho6 ⊢; rw [← EV.out] at hg6; obtain ⟨H6, r6, f6, l6, t6⟩ := HN6.out _ _ _ ho6 hg6; clear ho6 hg6) | (refine step_appB rfl (.tmp 34) (.tmp 41) 48 rfl tRI j0 (.agg #[.int .i64 0, .int .i64 0]) 2 16 Try.underlying48 HJ.out jz0 jz1 jz2 rfl (by decide) s t6 (.slice A6 i c6) i (tab itV (L.take i)) ?_ H6.out.1 (if c = j then some ⟨g, 0, none⟩ else some ⟨g, j * 2, none⟩) (n - j) (c - j) (tab itV (L.drop j)) ?_ ?_ ?_ ?_ ?_ ?_ ?_; (· rfl); (· rfl); (· exact HT2.out); (· exact HC2.out _ H6.out.2.2.1); (· exact tab_one _); (· have := HLN.out; unfold maxLen; omega); (· have := HLN.out; omega); intro w8 A8 c8 ho8 hg8 hap8; clear hap8; rw [HM.out] at ho8 ⊢; obtain ⟨H8, r8, f8, l8⟩ := HN8.out _ _ _ _ _ _ H6 ho8 hg8; clear ho8 hg8))
  all_goals (
    obtain ⟨w9, ew9⟩ : ∃ w9, w9 = w8.setCell ⟨r, 2, none⟩ (.slice A8 (n - 1) c8) := ⟨_, rfl⟩
    obtain ⟨h81, h82, h83⟩ := H8.out
    have hr9 : Rec w9 r tRQ #[.int .i64 most, .int .i64 tk, .slice A8 (n - 1) c8] := by rw [ew9]; have := h82.set 2 (.slice A8 (n - 1) c8); simpa using this
    have ho9 : w9.ownsRow s tRI 2 (.slice A8 (n - 1) c8) (n - 1) (tab itV (L.eraseIdx i)) := by rw [ew9]; exact own_setB h81 h82 (by decide) 2 _
    have hk9 : Kept F w w9 := by
      rw [ew9]
      exact (Kept.of_below (by rw [ES.out]; exact h83) F).setCell (p := ⟨r, 2, none⟩) (.inr H.out.self) _
    have HR9 := hid hr9
    have HO9 := hid ho9
    have HK9 := hid hk9
    rw [← ew9]
    clear ew9 h81 h82 h83 hr9 ho9 hk9 r6 f6 l6 t6 r8 f8 l8 e1
    go_wp2_with fail
    all_goals (
      go_ret2
      refine ⟨rfl, _, ⟨H.out.big, A8, c8, by rw [HE.out]; exact HR9.out, by rw [HE.out]; exact own_base HO9.out (by omega), rfl⟩, ?_, HK9.out⟩
      rw [HE.out]
      rintro k (rfl | e)
      · exact .inl H.out.self
      · have := (HO9.out.lt k e).1
        exact .inr (by rw [ES.out]; exact this)))
end Go.Proofs.Ytifdogmlaengoaa
