/-
  Layer 04: the document's heap: Take. No condition.
-/
import Derived.Test.YtcbdghjakdbedaaRefB
import Derived.Test.YtcbdghjakdbedaaAppB
namespace Go.Proofs.Ytcbdghjakdbedaa
open Go Go.RowKit HpI
theorem tab_one (l : List It) : ∀ u ∈ tab itV l, u.oneCell' = true := by
  intro u hu
  simp only [tab, List.mem_flatMap] at hu
  obtain ⟨x, _, hx⟩ := hu
  simp [itV] at hx
  rcases hx with rfl | rfl | rfl <;> rfl
theorem tab_drop {α : Type} {f : α → List Value} {c : Nat} (hf : ∀ x, (f x).length = c) (l : List α) (m : Nat) : (tab f l).drop (m * c) = tab f (l.drop m) := by
  have h1 : tab f l = tab f (l.take m) ++ tab f (l.drop m) := by
    have h2 : tab f (l.take m ++ l.drop m) = tab f (l.take m) ++ tab f (l.drop m) := by simp only [tab, List.flatMap_append]
    rw [← h2, List.take_append_drop]
  by_cases hm : m ≤ l.length
  · rw [h1, List.drop_append_of_le_length (by rw [tab_length hf, List.length_take]; exact Nat.mul_le_mul_right _ (by omega)), List.drop_eq_nil_of_le (by rw [tab_length hf, List.length_take]; exact Nat.mul_le_mul_right _ (by omega)), List.nil_append]
  · rw [List.drop_eq_nil_of_le (by rw [tab_length hf]; exact Nat.mul_le_mul_right _ (by omega)), List.drop_eq_nil_of_le (by omega)]
    rfl
section
variable {B B' : Nat} {w w' : World} {b mb b' : Nat} {most most' : Int} {L L' : List It}
set_option maxRecDepth 100000 in
set_option maxHeartbeats 4000000 in
theorem RTake_none (i : Int) (hi : i < 0) : Calls Try.prog 11 #[.pointer (some ⟨b, 0, none⟩), .int .i64 i] w (Gives (.tuple #[.agg #[.int .u64 0, .int .i64 0, .int .i64 0], .bool false]) w) := by
  go_enter Try.func11, Try.ntmps11
  go_wp2_with fail
  refine bodyPost_ret (v := .tuple #[.agg #[.int .u64 0, .int .i64 0, .int .i64 0], .bool false]) (by simp [results, Try.results11, go_sem]) rfl ?_
  refine Gives.mk rfl ?_
  (repeat (first | exact Below.refl _ _ | refine RowKit.Below.past ?_ _ | refine RowKit.Below.alloc' ?_ _ | refine RowKit.Below.drew' ?_ | refine RowKit.Below.drewN' ?_ _ | refine RowKit.Below.setCell' ?_ (by simp [go_sem]) _))
abbrev itOf (x : It) : Value := .agg #[.int .u64 x.v, .int .i64 x.id, .int .i64 x.x]
set_option maxRecDepth 100000 in
set_option maxHeartbeats 4000000 in
theorem RTake_some (h : RHp B w b most L) (hl : L.length ≤ 4096) (hB : B ≤ w.heap.size) (i : Nat) (x : It) (hx : L[i]? = some x) : Calls Try.prog 11 #[.pointer (some ⟨b, 0, none⟩), .int .i64 i] w
    (fun e w' => e = .returned (.tuple #[itOf x, .bool true]) ∧ RHp B w' b most (L.eraseIdx i) ∧ Below B w w' ∧ Kept (fun k => k = b) w w' ∧ ∀ k, rowOf b w' k → w.heap.size ≤ k) := by
  have H := hid h
  obtain ⟨j0, ji, jz0, jz1, jz2⟩ := info_parts info_ritem
  have HJ := hid ji
  have HX := hid hx
  obtain ⟨hi, hxe⟩ := List.getElem?_eq_some_iff.1 hx
  obtain ⟨a, c, hrec, hown⟩ := h.ex
  have hcap := own_cap hown
  obtain ⟨g, cap, eA, hg⟩ := own_succ hown (by omega)
  cases eA
  obtain ⟨n, en⟩ : ∃ n, L.length = n := ⟨_, rfl⟩
  have EN := hid en
  have i0 := own_cell (j := 0) itV_length hown hx (by omega)
  have i1 := own_cell (j := 1) itV_length hown hx (by omega)
  have i2 := own_cell (j := 2) itV_length hown hx (by omega)
  have q1 := Rec.cell hrec 1
  simp [itV] at i0 i1 i2 q1
  rw [en] at q1 hi hl hcap hrec hown
  have hbl := hrec.lt
  have hgl : g < w.heap.size := World.block_lt_of_cell? w _ i0
  obtain ⟨s, es⟩ : ∃ s, w.heap.size = s := ⟨_, rfl⟩
  have ES := hid es
  rw [es] at hbl hgl
  have hbs : ¬ b = s := by omega
  have hgs : ¬ g = s := by omega
  obtain ⟨w1, ew1⟩ : ∃ w1, w1 = (w.alloc (.cells #[.int .u64 0, .int .i64 0, .int .i64 0] tRI)).alloc (.cells #[.int .u64 x.v, .int .i64 x.id, .int .i64 x.x] tRI) := ⟨_, rfl⟩
  have hb1 : Below w.heap.size w w1 := by rw [ew1]; exact ((Below.refl _ w).alloc (Nat.le_refl _) _).alloc (by simp) _
  have hs1 : w1.heap.size = s + 2 := by rw [ew1]; simp [es]
  have hRz : Rec w1 s tRI #[.int .u64 0, .int .i64 0, .int .i64 0] := by rw [ew1, ← es]; exact Rec.alloc (Rec.new w _ _) _
  have hRx : Rec w1 (s + 1) tRI #[.int .u64 x.v, .int .i64 x.id, .int .i64 x.x] := by
    rw [ew1, ← es]
    have := Rec.new (w.alloc (.cells #[.int .u64 0, .int .i64 0, .int .i64 0] tRI)) tRI #[.int .u64 x.v, .int .i64 x.id, .int .i64 x.x]
    rwa [World.size_alloc] at this
  have HREC1 := hid (hrec.below hb1 (Nat.le_refl _))
  have HOWN1 := hid (own_below hown hb1 (Nat.le_refl _))
  have HB1 := hid hb1
  have HRZ := hid hRz
  have HRX := hid hRx
  have EW1 := hid ew1
  have hil : (i : Int) < n := by omega
  have hi0 : ¬ (i : Int) < 0 := by omega
  have e1 : IntKind.i64.wrap ((i : Int) + 1) = ((i + 1 : Nat) : Int) := by rw [IntKind.wrap_i64] <;> omega
  obtain ⟨j, ej⟩ : ∃ j, i + 1 = j := ⟨_, rfl⟩
  rw [ej] at e1
  have hjn : j ≤ n := by omega
  have hic : i ≤ c := by omega
  have hin : i ≤ n := by omega
  have EJ := hid ej
  clear h hx hrec hown hb1 hRz hRx ew1 en ji ej hxe
  have HLN := hid hl
  have HS1 := hid hs1
  have HM := hid (show i + (n - j) = n - 1 by have := EJ.out; omega)
  have HT1 := hid (show (tab itV (L.take i)).length = i * 3 by rw [tab_length itV_length, List.length_take]; congr 1; have := EN.out; omega)
  have HT2 := hid (show (tab itV (L.drop j)).length = (n - j) * 3 by rw [tab_length itV_length, List.length_drop]; congr 1; have := EN.out; omega)
  obtain ⟨V, eV⟩ : ∃ V, V = (w1.alloc (.cells #[] tRI)).drew := ⟨_, rfl⟩
  have hbV : Below w1.heap.size w1 V := by rw [eV]; exact ((Below.refl _ w1).alloc (Nat.le_refl _) _).drew
  have HLIT := hid (show V.ownsRow (s + 2) tRI 3 (.slice (some ⟨s + 2, 0, none⟩) 0 0) 0 [] from by
    have h5 := World.ownsRow_lit (base := s + 2) (size := 3) (e := tRI) w1 #[] 0 (by omega) (by unfold maxLen; omega) rfl
    rw [hs1] at h5
    rw [eV]
    exact h5.drew)
  have hownV := own_below HOWN1.out hbV (Nat.le_refl _)
  have HC1 := hid (show Cells V (some ⟨g, 0, none⟩) (tab itV (L.take i)) from by
    rw [← tab_take itV_length]
    exact (Cells.of_own hownV).take _)
  have HN6 := hid (show ∀ (w6 : World) (A6 : Option Addr) (c6 : Nat), w6.ownsRow (s + 2) tRI 3 (.slice A6 i c6) i ([] ++ tab itV (L.take i)) → V.grownBy w6 (Value.slice (some ⟨s + 2, 0, none⟩) 0 0).ownBlock →
      Hid (w6.ownsRow (s + 2) tRI 3 (.slice A6 i c6) i (tab itV (L.take i)) ∧ Rec w6 b tR #[.int .i64 most, .slice (some ⟨g, 0, none⟩) n c] ∧ Cells w6 (some ⟨g, j * 3, none⟩) (tab itV (L.drop j)) ∧ Below (s + 2) w1 w6) ∧
      w6.cell? ⟨b, 1, none⟩ = some (.slice (some ⟨g, 0, none⟩) n c) ∧ w6.frozen? ⟨b, 1, none⟩ = false ∧ b < w6.heap.size ∧ s + 2 ≤ w6.heap.size from by
    intro w6 A6 c6 ho hg
    have hr6 : Rec w6 b tR #[.int .i64 most, .slice (some ⟨g, 0, none⟩) n c] := (hg.block b (HREC1.out.below hbV (Nat.le_refl _)).lt (by simp [Value.ownBlock]; omega)).trans (HREC1.out.below hbV (Nat.le_refl _))
    have hb6 : Below (s + 2) w1 w6 := by
      refine Below.grown (by rw [← hs1]; exact hbV) hg (by have := hbV.size; omega) (fun k hk => ?_)
      simp only [Value.ownBlock, Option.some.injEq] at hk
      omega
    have hcl := Cells.drop (Cells.of_own (own_apart hownV hg (.inr (.inr (by simp [Value.ownBlock]; omega))))) (j * 3)
    rw [tab_drop itV_length, Nat.zero_add] at hcl
    exact ⟨hid ⟨by simpa using ho, hr6, hcl, hb6⟩, by rw [Rec.cell hr6]; rfl, Rec.frozen hr6 1, hr6.lt, by have := hb6.size; omega⟩)
  have HN8 := hid (show ∀ (w6 : World) (A6 : Option Addr) (c6 : Nat) (w8 : World) (A8 : Option Addr) (c8 : Nat), Hid (w6.ownsRow (s + 2) tRI 3 (.slice A6 i c6) i (tab itV (L.take i)) ∧ Rec w6 b tR #[.int .i64 most, .slice (some ⟨g, 0, none⟩) n c] ∧ Cells w6 (some ⟨g, j * 3, none⟩) (tab itV (L.drop j)) ∧ Below (s + 2) w1 w6) →
      w8.ownsRow (s + 2) tRI 3 (.slice A8 (n - 1) c8) (n - 1) (tab itV (L.take i) ++ tab itV (L.drop j)) → w6.grownBy w8 (Value.slice A6 i c6).ownBlock →
      Hid (w8.ownsRow (s + 2) tRI 3 (.slice A8 (n - 1) c8) (n - 1) (tab itV (L.eraseIdx i)) ∧ Rec w8 b tR #[.int .i64 most, .slice (some ⟨g, 0, none⟩) n c] ∧ Below (s + 2) w1 w8) ∧
      w8.cell? ⟨b, 1, none⟩ = some (.slice (some ⟨g, 0, none⟩) n c) ∧ w8.frozen? ⟨b, 1, none⟩ = false ∧ b < w8.heap.size from by
    intro w6 A6 c6 w8 A8 c8 h6 ho hg
    obtain ⟨o6, r6, -, b6⟩ := h6.out
    have hr8 := Rec.grown r6 o6 hg (by decide)
    have hb8 := b6.grown hg (by have := b6.size; omega) (fun k hk => (o6.lt k hk).1)
    refine ⟨hid ⟨?_, hr8, hb8⟩, by rw [Rec.cell hr8]; rfl, Rec.frozen hr8 1, hr8.lt⟩
    have e : tab itV (L.take i) ++ tab itV (L.drop j) = tab itV (L.eraseIdx i) := by
      have h2 : tab itV (L.take i ++ L.drop j) = tab itV (L.take i) ++ tab itV (L.drop j) := by simp only [tab, List.flatMap_append]
      rw [← h2, List.eraseIdx_eq_take_drop_succ, EJ.out]
    rw [← e]; exact ho)
  have EV := hid eV
  clear eV hbV hownV
  have HC2 := hid (show ∀ w6 : World, Cells w6 (some ⟨g, j * 3, none⟩) (tab itV (L.drop j)) → Cells w6 (if c = j then some ⟨g, 0, none⟩ else some ⟨g, j * 3, none⟩) (tab itV (L.drop j)) from fun w6 h => by
    by_cases hcj : c = j
    · rw [show L.drop j = [] from List.drop_eq_nil_of_le (by have := EN.out; omega)]
      exact Cells.nil _ _
    · rw [if_neg hcj]; exact h)
  · go_enter Try.func11, Try.ntmps11
    go_wp2_with fail
    rw [← EW1.out]
    have r1 := Rec.cell HREC1.out 1
    have f1 := Rec.frozen HREC1.out 1
    simp at r1
    have hb1l : b < w1.heap.size := by omega
    clear q1 i0 i1 i2
    go_region_law (first | (refine step_appB rfl (.tmp 18) (.tmp 24) 46 rfl tRI j0 (.agg #[.int .u64 0, .int .i64 0, .int .i64 0]) 3 24 Try.underlying46 HJ.out jz0 jz1 jz2 rfl (by decide) (s + 2) ?_ (.slice (some ⟨s + 2, 0, none⟩) 0 0) 0 [] ?_ ?_ (some ⟨g, 0, none⟩) i c (tab itV (L.take i)) ?_ ?_ ?_ ?_ ?_ ?_ ?_; (· simp [go_sem]; omega); (· simp [go_sem, HS1.out]); (· rw [← EV.out]; exact HLIT.out); (· rfl); (· exact HT1.out); (· rw [← EV.out]; exact HC1.out); (· exact tab_one _); (· have := HLN.out; unfold maxLen; omega); (· have := HLN.out; omega); intro w6 A6 c6 ho6 hg6 hap6; clear hap6; rw [Nat.zero_add] at ho6 ⊢; rw [← EV.out] at hg6; obtain ⟨H6, r6, f6, l6, t6⟩ := HN6.out _ _ _ ho6 hg6; clear ho6 hg6) | (refine step_appB rfl (.tmp 25) (.tmp 32) 46 rfl tRI j0 (.agg #[.int .u64 0, .int .i64 0, .int .i64 0]) 3 24 Try.underlying46 HJ.out jz0 jz1 jz2 rfl (by decide) (s + 2) t6 (.slice A6 i c6) i (tab itV (L.take i)) ?_ H6.out.1 (if c = j then some ⟨g, 0, none⟩ else some ⟨g, j * 3, none⟩) (n - j) (c - j) (tab itV (L.drop j)) ?_ ?_ ?_ ?_ ?_ ?_ ?_; (· rfl); (· rfl); (· exact HT2.out); (· exact HC2.out _ H6.out.2.2.1); (· exact tab_one _); (· have := HLN.out; unfold maxLen; omega); (· have := HLN.out; omega); intro w8 A8 c8 ho8 hg8 hap8; clear hap8; rw [HM.out] at ho8 ⊢; obtain ⟨H8, r8, f8, l8⟩ := HN8.out _ _ _ _ _ _ H6 ho8 hg8; clear ho8 hg8))
    all_goals (
      obtain ⟨w9, ew9⟩ : ∃ w9, w9 = w8.setCell ⟨b, 1, none⟩ (.slice A8 (n - 1) c8) := ⟨_, rfl⟩
      obtain ⟨h81, h82, h83⟩ := H8.out
      have hz9 : Rec w9 s tRI #[.int .u64 0, .int .i64 0, .int .i64 0] := by rw [ew9]; exact Rec.set_other (HRZ.out.below h83 (by omega)) (p := ⟨b, 1, none⟩) (by simp; omega) _
      have hx9 : Rec w9 (s + 1) tRI #[.int .u64 x.v, .int .i64 x.id, .int .i64 x.x] := by rw [ew9]; exact Rec.set_other (HRX.out.below h83 (by omega)) (p := ⟨b, 1, none⟩) (by simp; omega) _
      have hr9 : Rec w9 b tR #[.int .i64 most, .slice A8 (n - 1) c8] := by rw [ew9]; have := h82.set 1 (.slice A8 (n - 1) c8); simpa using this
      have ho9 : w9.ownsRow (s + 2) tRI 3 (.slice A8 (n - 1) c8) (n - 1) (tab itV (L.eraseIdx i)) := by rw [ew9]; exact own_setB h81 h82 (by decide) 1 _
      have hk9 : KS (fun k => k = b ∨ s + 2 ≤ k) w1 w9 := by
        rw [ew9]
        exact KS.setCell (S := fun k => k = b ∨ s + 2 ≤ k) ⟨h83.os, h83.tape, h83.output, by have := h83.size; omega, fun k hk hn => h83.block k (by omega)⟩ (.inl rfl) 1 _
      have z0 := Rec.cell hz9 0
      have z1 := Rec.cell hz9 1
      have z2 := Rec.cell hz9 2
      have y0 := Rec.frozen hz9 0
      have y1 := Rec.frozen hz9 1
      have y2 := Rec.frozen hz9 2
      have x0 := Rec.cell hx9 0
      have x1 := Rec.cell hx9 1
      have x2 := Rec.cell hx9 2
      have zl := Rec.lt hz9
      simp at z0 z1 z2 x0 x1 x2
      have HR9 := hid hr9
      have HO9 := hid ho9
      have HK9 := hid hk9
      rw [← ew9]
      clear ew9 h81 h82 h83 hz9 hx9 hr9 ho9 hk9 r6 f6 l6 t6 r8 f8 l8 r1 f1 e1
      go_wp2_with fail
      all_goals (
        refine bodyPost_ret (v := .tuple #[itOf x, .bool true]) (by simp [results, Try.results11, go_sem, z0, z1, z2, y0, y1, y2, zl]) rfl ?_
        have hs0 := ES.out
        have hle : (L.eraseIdx i).length = n - 1 := by rw [List.length_eraseIdx_of_lt (by rw [EN.out]; exact hi)]; rw [EN.out]
        obtain ⟨wf, ewf⟩ : ∃ wf, wf = ((w9.setCell ⟨s, 0, none⟩ (.int .u64 x.v)).setCell ⟨s, 1, none⟩ (.int .i64 x.id)).setCell ⟨s, 2, none⟩ (.int .i64 x.x) := ⟨_, rfl⟩
        have hkf : KS (fun k => k = s) w9 wf := by
          rw [ewf]
          exact (((KS.refl (fun k => k = s) w9).setCell (b := s) rfl 0 _).setCell (b := s) rfl 1 _).setCell (b := s) rfl 2 _
        rw [← ewf]
        have hrf : RHp B w9 b most (L.eraseIdx i) := ⟨H.out.big, A8, c8, by rw [hle]; exact HR9.out, by rw [hle]; exact own_base HO9.out (by omega)⟩
        have hrf2 := hrf.ks hkf (fun k hk e => by
          subst e
          rcases hk with h | ⟨n', c', h⟩
          · omega
          · rw [Rec.cell HR9.out 1] at h
            simp at h
            obtain ⟨h, -, -⟩ := h
            have := (HO9.out.lt k (by rw [h]; rfl)).1
            omega)
        refine ⟨rfl, hrf2, ?_, ?_, fun k hk => ?_⟩
        · refine (HB1.out.mono hB).trans ?_
          have h1 : Below B w1 w9 := HK9.out.under (by rintro k (rfl | h); exact H.out.big; omega) (by omega)
          exact h1.trans ⟨hkf.os, hkf.tape, hkf.output, hkf.size, fun k hk => hkf.block k (by have := h1.size; omega) (by omega)⟩
        · refine ⟨hkf.os.trans (HK9.out.os.trans HB1.out.os), hkf.tape.trans (HK9.out.tape.trans HB1.out.tape), hkf.output.trans (HK9.out.output.trans HB1.out.output), by have := HB1.out.size; have := HK9.out.size; have := hkf.size; omega, fun k hk hn => ?_⟩
          have hkb : k ≠ b := hn
          exact (hkf.block k (by have := HK9.out.size; omega) (by omega)).trans ((HK9.out.block k (by omega) (by rintro (h | h); exact hkb h; omega)).trans (HB1.out.block k hk))
        · have hk2 := row_same (hkf.block b HR9.out.lt (by omega)) hk
          obtain ⟨n', c', h⟩ := hk2
          rw [Rec.cell HR9.out 1] at h
          simp at h
          obtain ⟨h, -, -⟩ := h
          have := (HO9.out.lt k (by rw [h]; rfl)).1
          omega))
end
end Go.Proofs.Ytcbdghjakdbedaa
