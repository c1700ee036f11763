/-
  Layer 05: the document's queue in memory; New, Push. No condition.
-/
import Derived.Test.YtifdogmlaengoaaFifM
import Derived.Test.YtifdogmlaengoaaPushB
import Derived.Test.YtifdogmlaengoaaAppB
namespace Go.Proofs.Ytifdogmlaengoaa
open Go.RowKit
attribute [local go_sem] Oper.semAt_some
abbrev tRQ : TypeId := 50
abbrev tRI : TypeId := 47
def itV (x : Int × Int) : List Value := [.int .i64 x.1, .int .i64 x.2]
theorem itV_length (x : Int × Int) : (itV x).length = 2 := rfl
theorem info_ritem : (Try.prog.info? tRI).map (fun i => (i.zero, i.size, i.bytes)) = some (some (.agg #[.int .i64 0, .int .i64 0]), 2, 16) := by kernel_rfl
structure DA (B : Nat) (w : World) (r : Nat) (F : Nat → Prop) (most tk : Int) (L : List (Int × Int)) : Prop where
  big : B ≤ r
  ex : ∃ A c, Rec w r tRQ #[.int .i64 most, .int .i64 tk, .slice A L.length c] ∧ w.ownsRow B tRI 2 (.slice A L.length c) L.length (tab itV L) ∧ F = (fun k => k = r ∨ (Value.slice A L.length c).ownBlock = some k)
/-- Behind an act. -/
def DR (B r : Nat) (F : Nat → Prop) (most tk : Int) (L : List (Int × Int)) (w w' : World) : Prop :=
  ∃ F', DA B w' r F' most tk L ∧ (∀ k, F' k → F k ∨ w.heap.size ≤ k) ∧ Kept F w w'
section
variable {B : Nat} {w w' : World} {r : Nat} {F : Nat → Prop} {most tk : Int} {L : List (Int × Int)}
theorem DA.far (h : DA B w r F most tk L) (hb : Below w.heap.size w w') : DA B w' r F most tk L := by
  obtain ⟨A, c, h1, h2, h3⟩ := h.ex
  exact ⟨h.big, A, c, h1.below hb (Nat.le_refl _), own_below h2 hb (Nat.le_refl _), h3⟩
theorem DA.kept {X : Nat → Prop} (h : DA B w r F most tk L) (hk : Kept X w w') (hX : ∀ k, F k → ¬ X k) : DA B w' r F most tk L := by
  obtain ⟨A, c, h1, h2, h3⟩ := h.ex
  subst h3
  refine ⟨h.big, A, c, h1.kept hk (hX r (.inl rfl)), ⟨h2.1, ?_⟩, rfl⟩
  rcases h2.2 with h4 | ⟨g, cap, cur, hv, hg, hh, hr⟩
  · exact .inl h4
  · exact .inr ⟨g, cap, cur, hv, hg, (hk.block g (Array.getElem?_eq_some_iff.1 hh).1 (hX g (.inr (by rw [hv]; rfl)))).trans hh, hr⟩
theorem DA.foot (h : DA B w r F most tk L) (k : Nat) (hk : F k) : B ≤ k ∧ k < w.heap.size := by
  obtain ⟨A, c, h1, h2, h3⟩ := h.ex
  subst h3
  rcases hk with rfl | hk
  · exact ⟨h.big, h1.lt⟩
  · exact h2.lt k hk
theorem DA.self (h : DA B w r F most tk L) : F r := by
  obtain ⟨A, c, h1, h2, h3⟩ := h.ex
  subst h3; exact .inl rfl
/-- What its cells read as. -/
theorem DA.cells (h : DA B w r F most tk L) : ∃ A c, w.cell? ⟨r, 0, none⟩ = some (.int .i64 most) ∧ w.cell? ⟨r, 1, none⟩ = some (.int .i64 tk) ∧ w.cell? ⟨r, 2, none⟩ = some (.slice A L.length c) ∧ r < w.heap.size ∧ Cells w A (tab itV L) := by
  obtain ⟨A, c, h1, h2, h3⟩ := h.ex
  have q0 := Rec.cell h1 0
  have q1 := Rec.cell h1 1
  have q2 := Rec.cell h1 2
  exact ⟨A, c, by simpa using q0, by simpa using q1, by simpa using q2, h1.lt, Cells.of_own h2⟩
end
set_option maxHeartbeats 1000000 in
theorem DNew_any (B : Nat) (most : Int) (w : World) (hB : B ≤ w.heap.size) :
    Calls Try.prog 12 #[.int .i64 most] w (fun e w' => ∃ r F, e = .returned (.pointer (some ⟨r, 0, none⟩)) ∧ DA B w' r F (mostA most) 0 [] ∧ (∀ k, F k → w.heap.size ≤ k) ∧ Below w.heap.size w w') := by
  have HN := hid (show ∀ m, mostA most = m → ∀ w', w' = w.alloc (.cells #[.int .i64 m, .int .i64 0, .slice none 0 0] tRQ) → ∃ F, DA B w' w.heap.size F (mostA most) 0 [] ∧ (∀ k, F k → w.heap.size ≤ k) ∧ Below w.heap.size w w' from by
    rintro m hm w' rfl
    refine ⟨_, ⟨hB, none, 0, by rw [hm]; exact Rec.new w _ _, World.ownsRow_nil _ _ _ _, rfl⟩, fun k hk => ?_, (Below.refl _ _).alloc (Nat.le_refl _) _⟩
    rcases hk with rfl | hk
    · exact Nat.le_refl _
    · simp [Value.ownBlock] at hk)
  have hcase : (most < 0) ∨ (¬ most < 0 ∧ 4096 < most) ∨ (¬ most < 0 ∧ ¬ 4096 < most) := by omega
  rcases hcase with h1 | ⟨h1, h2⟩ | ⟨h1, h2⟩
  all_goals
    go_enter Try.func12, Try.ntmps12
    go_wp2
    go_ret
    first
      | (obtain ⟨F, g1, g2, g3⟩ := HN.out 0 (by unfold mostA; omega) _ rfl
         first | exact ⟨_, rfl, F, g1, g2, g3⟩ | exact ⟨_, F, rfl, g1, g2, g3⟩)
      | (obtain ⟨F, g1, g2, g3⟩ := HN.out 4096 (by unfold mostA; omega) _ rfl
         first | exact ⟨_, rfl, F, g1, g2, g3⟩ | exact ⟨_, F, rfl, g1, g2, g3⟩)
      | (obtain ⟨F, g1, g2, g3⟩ := HN.out most (by unfold mostA; omega) _ rfl
         first | exact ⟨_, rfl, F, g1, g2, g3⟩ | exact ⟨_, F, rfl, g1, g2, g3⟩)
set_option maxHeartbeats 1000000 in
theorem DPushF_any {B : Nat} {w : World} {r : Nat} {F : Nat → Prop} {most tk : Int} {L : List (Int × Int)} (h : DA B w r F most tk L) (hr : most ≤ (L.length : Int)) (v : Int) :
    Calls Try.prog 13 #[.pointer (some ⟨r, 0, none⟩), .int .i64 v] w (fun e w' => e = .returned (.tuple #[.int .i64 0, .int .i64 3]) ∧ DR B r F most tk L w w') := by
  have H := hid h
  obtain ⟨A, c, q0, q1, q2, hrl, hc⟩ := h.cells
  obtain ⟨n, en⟩ : ∃ n, L.length = n := ⟨_, rfl⟩
  rw [en] at q2 hr
  clear h hc
  go_enter Try.func13, Try.ntmps13
  go_wp2_with fail
  refine wp_region_past (by kernel_rfl) (by kernel_rfl) ?_
  repeat (go_big_quiet_step ((fail)))
  refine wpQuiet_nil ?_
  rintro _ ⟨_, rfl⟩
  rename_i x3
  go_wp2_with fail
  go_ret2
  have hb := w.below_past x3
  exact ⟨rfl, F, H.out.far hb, fun k hk => .inl hk, Kept.of_below hb _⟩
set_option maxRecDepth 100000 in
set_option maxHeartbeats 2000000 in
theorem DPush_any {B : Nat} {w : World} {r : Nat} {F : Nat → Prop} {most tk : Int} {L : List (Int × Int)} (h : DA B w r F most tk L) (hB : B ≤ w.heap.size) (hl : L.length ≤ 4096) (ht0 : 0 ≤ tk) (ht1 : tk ≤ 1000000) (hr : (L.length : Int) < most) (v : Int) :
    Calls Try.prog 13 #[.pointer (some ⟨r, 0, none⟩), .int .i64 v] w (fun e w' => e = .returned (.tuple #[.int .i64 (tk + 1), .int .i64 0]) ∧ DR B r F most (tk + 1) (L ++ [(tk + 1, v)]) w w') := by
  have H := hid h
  obtain ⟨j0, ji, jz0, jz1, jz2⟩ := info_parts info_ritem
  have HJ := hid ji
  obtain ⟨A, c, q0, q1, q2, hrl, hc⟩ := h.cells
  obtain ⟨n, en⟩ : ∃ n, L.length = n := ⟨_, rfl⟩
  have EN := hid en
  have e1 : IntKind.i64.wrap (tk + 1) = tk + 1 := by rw [IntKind.wrap_i64]; omega
  rw [en] at q2 hr hl
  have HRN := hid hr
  clear h hc ji en
  go_enter Try.func13, Try.ntmps13
  go_wp2_with fail
  refine wp_region_past (by kernel_rfl) (by kernel_rfl) ?_
  repeat (go_big_quiet_step ((fail)))
  refine wpQuiet_nil ?_
  rintro _ ⟨_, rfl⟩
  rename_i x3
  obtain ⟨w3, ew3⟩ : ∃ w3, w3 = w.past x3 := ⟨_, rfl⟩
  have hb3 : Below w.heap.size w w3 := by rw [ew3]; exact w.below_past x3
  rw [← ew3]
  obtain ⟨A3, c3, hrec3, hown3, hF3⟩ := (H.out.far hb3).ex
  rw [EN.out] at hrec3 hown3 hF3
  have d1 := Rec.cell hrec3 1
  have f1 := Rec.frozen hrec3 1
  simp at d1
  have hlt3 := hrec3.lt
  obtain ⟨w4, ew4⟩ : ∃ w4, w4 = w3.setCell ⟨r, 1, none⟩ (.int .i64 (tk + 1)) := ⟨_, rfl⟩
  have hrec4 : Rec w4 r tRQ #[.int .i64 most, .int .i64 (tk + 1), .slice A3 n c3] := by
    rw [ew4]
    have := Rec.set hrec3 1 (.int .i64 (tk + 1))
    simpa using this
  have hown4 := own_setB hown3 hrec3 (by decide) 1 (.int .i64 (tk + 1))
  rw [← ew4] at hown4
  have hk4 : Kept F w w4 := by
    rw [ew4]
    exact ((Kept.of_below hb3 F).setCell (p := ⟨r, 1, none⟩) (.inr H.out.self) _)
  have EW4 := hid ew4
  have HREC4 := hid hrec4
  have HON := hid hown4.drew
  have HK4 := hid hk4
  have HF3 := hid hF3
  have hs4 : B ≤ w4.heap.size := by have := hk4.size; omega
  clear ew3 hb3 hrec3 hown3 hrec4 hown4 hk4 ew4 hF3 q0 q1 q2 hrl
  go_wp2_with fail
  rw [← EW4.out]
  have k1 := Rec.cell HREC4.out 1
  have k2 := Rec.cell HREC4.out 2
  have f2 := Rec.frozen HREC4.out 2
  have hlt4 := HREC4.out.lt
  simp at k1 k2
  clear d1 f1 hlt3
  go_region_law ((refine step_pushB rfl (.tmp 27) (.tmp 34) 48 rfl tRI j0 (.agg #[.int .i64 0, .int .i64 0]) 2 16 Try.underlying48 HJ.out jz0 jz1 jz2 rfl (by decide) B ?_ (.slice A3 n c3) n (tab itV L) ?_ HON.out _ #[.int .i64 (tk + 1), .int .i64 v] ?_ rfl rfl ?_ ?_ ?_ ?_; (· exact hs4); (· rfl); (· simp [go_sem]); (· simp [Value.oneCell']); (· omega); (· unfold maxLen; omega); intro w6 g6 c6 ho6 hg6 hap; have HAP := hid (apart_or hap); clear hap; have HO6 := hid ho6; have HG6 := hid hg6; have HR6 := hid (Rec.grown (Rec.drew HREC4.out) HON.out hg6 (by decide)); have f16 : w6.frozen? ⟨r, 2, none⟩ = false := Rec.frozen HR6.out 2; have hlt6 := Rec.lt HR6.out; have d16 : w6.cell? ⟨r, 2, none⟩ = some (.slice A3 n c3) := (by rw [Rec.cell HR6.out]; rfl); clear ho6 hg6))
  all_goals (
    obtain ⟨w7, ew7⟩ : ∃ w7, w7 = w6.setCell ⟨r, 2, none⟩ (.slice (some ⟨g6, 0, none⟩) (n + 1) c6) := ⟨_, rfl⟩
    have l1 : (L ++ [(tk + 1, v)]).length = n + 1 := by rw [List.length_append, EN.out]; rfl
    have hr7 : Rec w7 r tRQ #[.int .i64 most, .int .i64 (tk + 1), .slice (some ⟨g6, 0, none⟩) (n + 1) c6] := by
      have := Rec.set HR6.out 2 (.slice (some ⟨g6, 0, none⟩) (n + 1) c6)
      rw [ew7]; simpa using this
    have ho7 : w7.ownsRow B tRI 2 (.slice (some ⟨g6, 0, none⟩) (n + 1) c6) (n + 1) (tab itV (L ++ [(tk + 1, v)])) := by
      have := own_setB HO6.out HR6.out (by decide) 2 (.slice (some ⟨g6, 0, none⟩) (n + 1) c6)
      rw [ew7, ← tab_snoc]; exact this
    have hk7 : Kept F w w7 := by
      have h1 : Kept F w4.drew w6 := ⟨HG6.out.os, HG6.out.tape, HG6.out.output, HG6.out.size, fun k hk hn => HG6.out.block k hk (fun e => hn (by rw [HF3.out]; exact .inr e.symm))⟩
      rw [ew7]
      exact (HK4.out.drew.trans h1).setCell (p := ⟨r, 2, none⟩) (.inr H.out.self) _
    have hnew : ∀ k, (k = r ∨ (Value.slice (some ⟨g6, 0, none⟩) (n + 1) c6).ownBlock = some k) → F k ∨ w.heap.size ≤ k := by
      rintro k (rfl | e)
      · exact .inl H.out.self
      · simp only [Value.ownBlock, Option.some.injEq] at e
        subst e
        rcases HAP.out with h | h
        · exact .inl (by rw [HF3.out]; exact .inr h)
        · exact .inr (by have := HK4.out.size; have h2 : w4.heap.size ≤ g6 := h; omega)
    have HR7 := hid hr7
    have HO7 := hid ho7
    have HK7 := hid hk7
    have HNW := hid hnew
    have L1 := hid l1
    have b1 := Rec.cell hr7 1
    have hlt7 := hr7.lt
    simp at b1
    rw [← ew7]
    clear hr7 ho7 hk7 hnew ew7 l1 d16 f16 hlt6 k1 k2 f2 hlt4
    go_wp2_with fail
    go_ret2
    refine ⟨rfl, _, ⟨H.out.big, some ⟨g6, 0, none⟩, c6, by rw [L1.out]; exact HR7.out, by rw [L1.out]; exact HO7.out, rfl⟩, ?_, HK7.out⟩
    rw [L1.out]
    exact HNW.out)
end Go.Proofs.Ytifdogmlaengoaa
