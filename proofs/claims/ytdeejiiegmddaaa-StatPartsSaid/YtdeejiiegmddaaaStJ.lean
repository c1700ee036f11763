/-
  Layer 25: see, by the program. No condition.
-/
import Derived.Test.YtdeejiiegmddaaaStI
import Derived.Test.YtdeejiiegmddaaaPushB
import Derived.Deep.RegionLaw
namespace Go.Proofs.Ytdeejiiegmddaaa
open Go Go.RowKit
theorem apart_or {v : Value} {g n cap sz : Nat} (h : ∀ v' : Value, Apart v' v → (∀ k, v'.ownBlock = some k → k < sz) → Apart v' (.slice (some ⟨g, 0, none⟩) n cap)) : v.ownBlock = some g ∨ sz ≤ g := by
  by_cases h1 : v.ownBlock = some g
  · exact .inl h1
  · refine .inr (Nat.le_of_not_lt fun h2 => ?_)
    rcases h (.slice (some ⟨g, 0, none⟩) 1 1) (.inr (.inr (fun e => h1 e.symm))) (fun k hk => by simp only [Value.ownBlock, Option.some.injEq] at hk; omega) with h3 | h3 | h3
    · simp [Value.ownBlock] at h3
    · simp [Value.ownBlock] at h3
    · exact h3 rfl
/-- What an event of a task does to its tally, and to its waits. -/
def seeT (e : Ev) (t : Ty) (L : List (Int × Int)) : Ty :=
  if e.kind = 2 then ⟨t.id, t.d + 1, t.p, t.a, t.b, t.e, t.wt⟩ else if e.kind = 3 then ⟨t.id, t.d, t.p + 1, t.a, t.b, t.e, t.wt⟩
  else if e.kind = 4 then goK e ⟨t.id, t.d, t.p, t.a + 1, t.b, t.e, t.wt⟩ L L.length else if e.kind = 6 then ⟨t.id, t.d, t.p, t.a, t.b + 1, t.e, t.wt⟩
  else if e.kind = 8 then goK e ⟨t.id, t.d, t.p, t.a, t.b, t.e + 1, t.wt⟩ L L.length else if e.kind = 11 then goK e t L L.length else t
def seeL (e : Ev) (L : List (Int × Int)) : List (Int × Int) :=
  if e.kind = 6 then L ++ [(e.lock, e.time)] else if e.kind = 4 ∨ e.kind = 8 ∨ e.kind = 11 then leftF e L else L
/-- Numbers of a tally behind so many events. -/
structure TyIn (t : Ty) (k : Nat) : Prop where
  d : 0 ≤ t.d ∧ t.d ≤ k
  p : 0 ≤ t.p ∧ t.p ≤ k
  a : 0 ≤ t.a ∧ t.a ≤ k
  b : 0 ≤ t.b ∧ t.b ≤ k
  e : 0 ≤ t.e ∧ t.e ≤ k
  wt : U64 t.wt
theorem info_wait : (Try.prog.info? tWa).map (fun i => (i.zero, i.size, i.bytes)) = some (some (.agg #[.int .i64 0, .int .u64 0]), 2, 16) := by kernel_rfl
set_option maxRecDepth 100000 in
set_option maxHeartbeats 4000000 in
theorem see_any (B b : Nat) (e : Ev) (t : Ty) (L : List (Int × Int)) (q : Nat) (hq : q < 4294967296) (ht : TyIn t q) (h1 : U64 e.time) (h2 : ∀ k, U64 (waA L k).2) (hn : L.length < 4294967296) (w : World) (F : Nat → Prop) (h : RwO B b t L w F) (hBw : B ≤ w.heap.size) :
    Calls Try.prog 14 #[.pointer (some ⟨b, 0, none⟩), .agg (evV e).toArray] w (fun en w' => en = .returned (.tuple #[]) ∧ After (RwO B b (seeT e t L) (seeL e L)) F w w') := by
  obtain ⟨j0, ji, jz0, jz1, jz2⟩ := info_parts info_wait
  have HJ := hid ji
  have H := hid h
  have HOV := hid (fun (t' : Ty) (ht' : U64 t'.wt) (W : World) (hW : RwO B b t' L W F) => over_any B b e t' L h1 h2 ht' (by unfold maxLen; omega) W F hW)
  obtain ⟨A, c, hr, ho, hb, hA, hF⟩ := h
  obtain ⟨n, en⟩ : ∃ n, L.length = n := ⟨_, rfl⟩
  rw [en] at hr ho hn
  obtain ⟨et, ek, ea, el, en'⟩ := e
  obtain ⟨tk, td, tp, ta, tb, te, tw⟩ := t
  obtain ⟨i1, i2, i3, i4, i5, i6⟩ := ht
  simp only at i1 i2 i3 i4 i5 i6
  obtain ⟨w1, ew1⟩ : ∃ w1, w1 = w.alloc (.cells (evV ⟨et, ek, ea, el, en'⟩).toArray tEv) := ⟨_, rfl⟩
  obtain ⟨s, es⟩ : ∃ s, w.heap.size = s := ⟨_, rfl⟩
  have hR1 : Rec w1 s tEv (evV ⟨et, ek, ea, el, en'⟩).toArray := by rw [ew1, ← es]; exact Rec.new w _ _
  have hr1 : Rec w1 b tRow (rowV ⟨tk, td, tp, ta, tb, te, tw⟩ (.slice A n c)).toArray := by rw [ew1]; exact hr.alloc _
  have ho1 : w1.ownsRow B tWa 2 (.slice A n c) n (tab waV L) := by rw [ew1]; exact ho.alloc _
  have hk1 : Kept F w w1 := by rw [ew1]; exact (Kept.refl F w).alloc _
  have hbs : b < s := by rw [← es]; exact hr.lt
  have hs1 : B ≤ w1.heap.size := by have := hk1.size; omega
  have HK1 := hid hk1
  have HE1 := hid hR1
  have HO1 := hid ho1
  have HR1 := hid hr1
  have HA := hid hA
  have HB := hid hb
  have HF := hid hF
  have EN := hid en
  have ES := hid es
  have H1 := hid (show RwO B b ⟨tk, td, tp, ta, tb, te, tw⟩ L w1 F from ⟨A, c, by rw [en]; exact hr1, by rw [en]; exact ho1, hb, hA, fun k h => ⟨(hF k h).1, Nat.lt_of_lt_of_le (hF k h).2 hk1.size⟩⟩)
  have HP := hid (fun (j : Nat) (y : Ty) (u : Value) (hy : (rowV y (.slice A n c)).toArray = (rowV ⟨tk, td, tp, ta, tb, te, tw⟩ (.slice A n c)).toArray.setIfInBounds j u) =>
    show RwO B b y L (w1.setCell ⟨b, j, none⟩ u) F ∧ Kept F w (w1.setCell ⟨b, j, none⟩ u) from by
      have h7 := hr1.set j u
      rw [← hy] at h7
      have hk := hk1.setCell (p := ⟨b, j, none⟩) (.inr hb) u
      exact ⟨⟨A, c, by rw [EN.out]; exact h7, by rw [EN.out]; exact own_setB ho1 hr1 (by decide) _ _, hb, hA, fun k h => ⟨(hF k h).1, Nat.lt_of_lt_of_le (hF k h).2 hk.size⟩⟩, hk⟩)
  have r1 := Rec.cell hR1 1
  have r0 := Rec.cell hR1 0
  have r2 := Rec.cell hR1 2
  have r3 := Rec.cell hR1 3
  have r4 := Rec.cell hR1 4
  have hsl := hR1.lt
  have hbl := hr1.lt
  simp [evV] at r0 r1 r2 r3 r4
  have c0 := Rec.cell hr1 0
  have f0 := Rec.frozen hr1 0
  have c1 := Rec.cell hr1 1
  have f1 := Rec.frozen hr1 1
  have c2 := Rec.cell hr1 2
  have f2 := Rec.frozen hr1 2
  have c3 := Rec.cell hr1 3
  have f3 := Rec.frozen hr1 3
  have c4 := Rec.cell hr1 4
  have f4 := Rec.frozen hr1 4
  have c5 := Rec.cell hr1 5
  have f5 := Rec.frozen hr1 5
  have c6 := Rec.cell hr1 6
  have f6 := Rec.frozen hr1 6
  have c7 := Rec.cell hr1 7
  have f7 := Rec.frozen hr1 7
  simp [rowV, tyV] at c0 c1 c2 c3 c4 c5 c6 c7
  have hne : ¬ s = b := by omega
  have hne2 : ¬ b = s := by omega
  clear hr ho hb hA hF hR1 hr1 ho1 hk1 h1 h2
  by_cases hk2 : ek = 2
  · subst hk2
    have ew : IntKind.i64.wrap (td + 1) = td + 1 := by rw [IntKind.wrap_i64]; omega
    go_enter Try.func14, Try.ntmps14
    go_upto_region 1 with (fail)
    rw [← ew1]
    clear ew1
    go_wp2_with fail
    go_end0
    exact ⟨rfl, F, (HP.out 1 ⟨tk, td + 1, tp, ta, tb, te, tw⟩ _ rfl).1, fun _ h => .inl h, (HP.out 1 ⟨tk, td + 1, tp, ta, tb, te, tw⟩ _ rfl).2⟩
  by_cases hk3 : ek = 3
  · subst hk3
    have ew : IntKind.i64.wrap (tp + 1) = tp + 1 := by rw [IntKind.wrap_i64]; omega
    go_enter Try.func14, Try.ntmps14
    go_upto_region 1 with (fail)
    rw [← ew1]
    clear ew1
    go_wp2_with fail
    go_end0
    exact ⟨rfl, F, (HP.out 2 ⟨tk, td, tp + 1, ta, tb, te, tw⟩ _ rfl).1, fun _ h => .inl h, (HP.out 2 ⟨tk, td, tp + 1, ta, tb, te, tw⟩ _ rfl).2⟩
  by_cases hk4 : ek = 4
  · subst hk4
    have ew : IntKind.i64.wrap (ta + 1) = ta + 1 := by rw [IntKind.wrap_i64]; omega
    go_enter Try.func14, Try.ntmps14
    have HP2 := hid (HP.out 3 ⟨tk, td, tp, ta + 1, tb, te, tw⟩ (.int .i64 (ta + 1)) rfl)
    have HC := hid (HOV.out ⟨tk, td, tp, ta + 1, tb, te, tw⟩ i6 _ HP2.out.1)
    go_upto_region 1 with (fail)
    rw [← ew1]
    clear ew1
    go_wp2_with (go_at_call 22; refine HC.out.mono ?_; rintro _ w3 ⟨rfl, ha3⟩)
    go_end0
    exact ⟨rfl, After.next (fun k h => .inl h) HP2.out.2 ha3⟩
  by_cases hk6 : ek = 6
  · subst hk6
    have ew : IntKind.i64.wrap (tb + 1) = tb + 1 := by rw [IntKind.wrap_i64]; omega
    go_enter Try.func14, Try.ntmps14
    go_upto_region 1 with (fail)
    rw [← ew1]
    clear ew1
    go_upto_region 11 with (fail)
    obtain ⟨w4, ew4⟩ : ∃ w4, w4 = w1.setCell ⟨b, 4, none⟩ (.int .i64 (tb + 1)) := ⟨_, rfl⟩
    have hrec4 : Rec w4 b tRow (rowV ⟨tk, td, tp, ta, tb + 1, te, tw⟩ (.slice A n c)).toArray := by
      have h7 := HR1.out.set 4 (.int .i64 (tb + 1))
      rw [ew4]
      unfold Rec at h7 ⊢
      simpa [rowV, tyV] using h7
    have hev4 : Rec w4 s tEv (evV ⟨et, 6, ea, el, en'⟩).toArray := by rw [ew4]; exact HE1.out.set_other (p := ⟨b, 4, none⟩) hne2 _
    have hown4 : w4.ownsRow B tWa 2 (.slice A n c) n (tab waV L) := by rw [ew4]; exact own_setB HO1.out HR1.out (by decide) _ _
    have hk4' : Kept F w w4 := by rw [ew4]; exact HK1.out.setCell (p := ⟨b, 4, none⟩) (.inr HB.out) _
    have hs4 : B ≤ w4.heap.size := by have := hk4'.size; omega
    rw [← ew4]
    have r0 := Rec.cell hev4 0
    have r3 := Rec.cell hev4 3
    have c7 := Rec.cell hrec4 7
    have f7 := Rec.frozen hrec4 7
    simp [evV] at r0 r3
    simp [rowV, tyV] at c7
    have hsl := hev4.lt
    have hbl := hrec4.lt
    have HREC4 := hid hrec4
    have HEV4 := hid hev4
    have HON := hid hown4.drew
    have HK4 := hid hk4'
    clear ew4 hrec4 hev4 hown4 hk4' c0 c1 c2 c3 c4 c5 c6 f0 f1 f2 f3 f4 f5 f6 r1
    go_region_law ((go_loud (refine step_pushB rfl (.tmp 57) (.tmp 63) 47 rfl tWa j0 (.agg #[.int .i64 0, .int .u64 0]) 2 16 Try.underlying47 HJ.out jz0 jz1 jz2 rfl (by decide) B ?_ (.slice A n c) n (tab waV L) ?_ HON.out _ #[.int .i64 el, .int .u64 et] ?_ rfl rfl ?_ ?_ ?_ ?_; (· exact hs4); (· rfl); (· simp [go_sem]); (· simp [Value.oneCell']); (· omega); (· unfold maxLen; omega); intro w6 g6 c6' ho6 hg6 hap; have HAP := hid (apart_or hap); clear hap; have HO6 := hid ho6; have HG6 := hid hg6; have HR6 := hid (Rec.grown (Rec.drew HREC4.out) HON.out hg6 (by decide)); have f16 : w6.frozen? ⟨b, 7, none⟩ = false := Rec.frozen HR6.out 7; have hlt6 := Rec.lt HR6.out; have d16 : w6.cell? ⟨b, 7, none⟩ = some (.slice A n c) := (by rw [Rec.cell HR6.out]; rfl); clear ho6 hg6)))
    all_goals (
      have hq2 : (L ++ [(el, et)]).length = n + 1 := by rw [List.length_append, EN.out]; rfl
      have hr7 := HR6.out.set 7 (.slice (some ⟨g6, 0, none⟩) (n + 1) c6')
      have ho7 := own_setB HO6.out HR6.out (by decide) 7 (.slice (some ⟨g6, 0, none⟩) (n + 1) c6')
      have hA6 : ∀ q, (Value.slice A n c).ownBlock = some q → F q := fun q hq => by
        rcases HON.out.2 with ⟨hv, _⟩ | ⟨g, c', cur, hv, _⟩
        · rw [hv] at hq; cases hq
        · injection hv with hv
          subst hv
          cases hq
          exact HA.out _ _ rfl
      have hk6 : Kept F w w6 := HK4.out.trans (⟨HG6.out.os, HG6.out.tape, HG6.out.output, HG6.out.size, fun k hk hn => HG6.out.block k hk (fun e => hn (hA6 k e.symm))⟩ : Kept F w4 w6)
      have hk7 : Kept F w (w6.setCell ⟨b, 7, none⟩ (.slice (some ⟨g6, 0, none⟩) (n + 1) c6')) := hk6.setCell (p := ⟨b, 7, none⟩) (.inr HB.out) _
      have hg6l : g6 < w6.heap.size := (HO6.out.lt g6 rfl).2
      have hgB : B ≤ g6 := (HO6.out.lt g6 rfl).1
      have hsz : (w6.setCell ⟨b, 7, none⟩ (.slice (some ⟨g6, 0, none⟩) (n + 1) c6')).heap.size = w6.heap.size := by simp [World.setCell]
      have hend : After (RwO B b (seeT ⟨et, 6, ea, el, en'⟩ ⟨tk, td, tp, ta, tb, te, tw⟩ L) (seeL ⟨et, 6, ea, el, en'⟩ L)) F w (w6.setCell ⟨b, 7, none⟩ (.slice (some ⟨g6, 0, none⟩) (n + 1) c6')) := by
        refine ⟨fun k => F k ∨ k = g6, ⟨some ⟨g6, 0, none⟩, c6', ?_, ?_, .inl HB.out, fun g o e => by cases e; exact .inr rfl, fun k hk => ?_⟩, fun k hk => ?_, hk7⟩
        · rw [show (seeL ⟨et, 6, ea, el, en'⟩ L).length = n + 1 from hq2]
          unfold Rec at hr7 ⊢
          rw [hr7]
          rfl
        · rw [show (seeL ⟨et, 6, ea, el, en'⟩ L).length = n + 1 from hq2]
          rw [show seeL ⟨et, 6, ea, el, en'⟩ L = L ++ [(el, et)] from rfl, ← tab_snoc]
          exact ho7
        · rw [hsz]
          rcases hk with hk | rfl
          · exact ⟨(HF.out k hk).1, Nat.lt_of_lt_of_le (HF.out k hk).2 hk6.size⟩
          · exact ⟨hgB, hg6l⟩
        · rcases hk with hk | rfl
          · exact .inl hk
          · rcases HAP.out with h | h
            · exact .inl (hA6 _ h)
            · exact .inr (Nat.le_trans HK4.out.size h)
      go_wp2_with fail
      go_end0
      exact ⟨rfl, hend⟩)
  by_cases hk8 : ek = 8
  · subst hk8
    have ew : IntKind.i64.wrap (te + 1) = te + 1 := by rw [IntKind.wrap_i64]; omega
    go_enter Try.func14, Try.ntmps14
    have HP2 := hid (HP.out 5 ⟨tk, td, tp, ta, tb, te + 1, tw⟩ (.int .i64 (te + 1)) rfl)
    have HC := hid (HOV.out ⟨tk, td, tp, ta, tb, te + 1, tw⟩ i6 _ HP2.out.1)
    go_upto_region 1 with (fail)
    rw [← ew1]
    clear ew1
    go_wp2_with (go_at_call 22; refine HC.out.mono ?_; rintro _ w3 ⟨rfl, ha3⟩)
    go_end0
    exact ⟨rfl, After.next (fun k h => .inl h) HP2.out.2 ha3⟩
  by_cases hk11 : ek = 11
  · subst hk11
    go_enter Try.func14, Try.ntmps14
    have HC := hid (HOV.out ⟨tk, td, tp, ta, tb, te, tw⟩ i6 _ H1.out)
    go_upto_region 1 with (fail)
    rw [← ew1]
    clear ew1
    go_wp2_with (go_at_call 22; refine HC.out.mono ?_; rintro _ w3 ⟨rfl, ha3⟩)
    go_end0
    exact ⟨rfl, After.next (fun k h => .inl h) HK1.out ha3⟩
  have hT : seeT ⟨et, ek, ea, el, en'⟩ ⟨tk, td, tp, ta, tb, te, tw⟩ L = ⟨tk, td, tp, ta, tb, te, tw⟩ := by simp [seeT, hk2, hk3, hk4, hk6, hk8, hk11]
  have hL : seeL ⟨et, ek, ea, el, en'⟩ L = L := by simp [seeL, hk4, hk6, hk8, hk11]
  rw [hT, hL]
  go_enter Try.func14, Try.ntmps14
  go_upto_region 1 with (fail)
  rw [← ew1]
  clear ew1
  go_wp2_with fail
  go_end0
  exact ⟨rfl, F, H1.out, fun _ h => .inl h, HK1.out⟩
end Go.Proofs.Ytdeejiiegmddaaa
