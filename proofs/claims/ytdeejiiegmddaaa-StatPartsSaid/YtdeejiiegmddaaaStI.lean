/-
  Layer 25: over, by the program. No condition.
-/
import Derived.Test.YtdeejiiegmddaaaStH
import Derived.Test.YtdeejiiegmddaaaPairO
import Derived.Test.YtdeejiiegmddaaaRegSplit
namespace Go.Proofs.Ytdeejiiegmddaaa
open Go Go.RowKit
/-- A task's row, and its waits that go on, as an object. -/
def RwO (B b : Nat) (t : Ty) (L : List (Int × Int)) : Ob := fun w F =>
  ∃ A c, Rec w b tRow (rowV t (.slice A L.length c)).toArray ∧ w.ownsRow B tWa 2 (.slice A L.length c) L.length (tab waV L) ∧ F b ∧ (∀ g o, A = some ⟨g, o, none⟩ → F g) ∧ ∀ k, F k → B ≤ k ∧ k < w.heap.size
theorem RwO.isO (B b : Nat) (t : Ty) (L : List (Int × Int)) : IsO B (RwO B b t L) :=
  ⟨fun ⟨A, c, h1, h2, h3, h4, h5⟩ hk hX => ⟨A, c, h1.kept hk (hX _ h3), own_keep h2 hk (fun g hg => by
      rcases h2.2 with ⟨hv, _⟩ | ⟨g', c', cur, hv, _⟩
      · rw [hv] at hg; cases hg
      · injection hv with hv
        subst hv
        cases hg
        exact hX _ (h4 _ 0 rfl)), h3, h4, fun k hF => ⟨(h5 k hF).1, Nat.lt_of_lt_of_le (h5 k hF).2 hk.size⟩⟩,
   fun ⟨A, c, h1, h2, h3, h4, h5⟩ hF => h5 _ hF⟩
set_option maxRecDepth 100000 in
set_option maxHeartbeats 4000000 in
theorem over_any (B b : Nat) (e : Ev) (t : Ty) (L : List (Int × Int)) (h1 : U64 e.time) (h2 : ∀ k, U64 (waA L k).2) (h3 : U64 t.wt) (hn : L.length ≤ maxLen) (w : World) (F : Nat → Prop) (h : RwO B b t L w F) :
    Calls Try.prog 22 #[.pointer (some ⟨b, 0, none⟩), .agg (evV e).toArray] w (fun en w' => en = .returned (.tuple #[]) ∧ After (RwO B b (goK e t L L.length) (leftF e L)) F w w') := by
  obtain ⟨A, c, hr, ho, hb, hA, hF⟩ := h
  obtain ⟨n, en⟩ : ∃ n, L.length = n := ⟨_, rfl⟩
  rw [en] at hr ho hn ⊢
  obtain ⟨s, es⟩ : ∃ s, w.heap.size = s := ⟨_, rfl⟩
  have hbs : b < s := by rw [← es]; exact hr.lt
  obtain ⟨w2, ew2⟩ : ∃ w2, w2 = (w.alloc (.cells #[.pointer (some ⟨b, 0, none⟩)] 46)).alloc (.cells (evV e).toArray tEv) := ⟨_, rfl⟩
  have hs1 : (w.alloc (.cells #[.pointer (some ⟨b, 0, none⟩)] 46)).heap.size = s + 1 := by rw [← es]; simp [go_sem]
  have hO2 : OvAt w2 (s + 1) s b e t (.slice A n c) := by
    rw [ew2]
    refine ⟨?_, ?_, (hr.alloc _).alloc _⟩
    · rw [← hs1]; exact Rec.new _ _ _
    · rw [← es]; exact (Rec.new w _ _).alloc _
  have hW2 : w2.ownsRow B tWa 2 (.slice A n c) n (tab waV L) := by rw [ew2]; exact (ho.alloc _).alloc _
  have hK2 : Kept F w w2 := by rw [ew2]; exact ((Kept.refl F w).alloc _).alloc _
  have HD := hid (Delete_any (s + 1) s b e t (.slice A n c) L h1 h2 h3 B A n c en hn w2.drew ⟨hO2.ev, hO2.pt, hO2.row⟩ hW2.drew)
  have HO2 := hid hO2
  have HK2 := hid hK2.drew
  have HF := hid hF
  have HA := hid hA
  have HB := hid hb
  have ES := hid es
  have p0 := Rec.cell hO2.pt 0
  have r7 := Rec.cell hO2.row 7
  simp at p0
  simp [rowV, tyV] at r7
  have hsl := hO2.pt.lt
  have hbl := hO2.row.lt
  have HEND : Hid (∀ w3, OvAt w3 (s + 1) s b e (goK e t L n) (.slice A n c) → w3.ownsRow B tWa 2 (.slice A (leftF e L).length c) (leftF e L).length (tab waV (leftF e L)) → Kept (fun k => k = b ∨ ∃ o, A = some ⟨k, o, none⟩) w2.drew w3 →
      After (RwO B b (goK e t L n) (leftF e L)) F w (w3.setCell ⟨b, 7, none⟩ (.slice A (leftF e L).length c))) := hid (fun w3 h3 h4 h5 => by
    have hk : Kept F w w3 := HK2.out.trans' h5 (fun i _ h => by
      rcases h with h | ⟨o, h⟩
      · rw [h]; exact hb
      · exact hA _ _ h)
    refine ⟨F, ⟨A, c, ?_, own_setB h4 h3.row (by decide) _ _, hb, hA, fun k h => ⟨(hF k h).1, Nat.lt_of_lt_of_le (hF k h).2 (by simpa [World.setCell] using hk.size)⟩⟩, fun _ h => .inl h, hk.setCell (p := ⟨b, 7, none⟩) (.inr hb) _⟩
    have h7 := h3.row.set 7 (.slice A (leftF e L).length c)
    unfold Rec at h7 ⊢
    simpa [rowV, tyV] using h7)
  obtain ⟨et, ek, ea, el, en'⟩ := e
  clear h1 h2 h3 hr ho hb hA hF hO2 hW2 hK2 en hn hs1
  go_enter Try.func22, Try.ntmps22
  go_upto_region 1 with (fail)
  rw [← ew2]
  clear ew2 es
  refine wp_region_split (S := (fun W => W.cell? ⟨s, 0, none⟩ = some (.pointer (some ⟨b, 0, none⟩)) ∧ W.cell? ⟨b, 7, none⟩ = some (.slice A n c))) 9 (by kernel_rfl) (by kernel_rfl) ?_ (fun hHeld => ?_)
  · (first | (simp [go_sem, *]; done))
  simp only [List.take_succ_cons, List.take_zero, List.drop_succ_cons, List.drop_zero]
  refine wpAnyH_take (i := 0) (v := ?_) rfl (by kernel_rfl) (by kernel_rfl) (by kernel_rfl) (fun _ _ _ h => h) (Or.inl ⟨by rfl, ?_⟩) (by assumption) ?_
  rotate_left
  · intro w hSw; (try dsimp only at hSw); go_simp; try with_reducible rfl
  try simp only [put_simp]
  refine wpAnyH_take (i := 1) (v := ?_) rfl (by kernel_rfl) (by kernel_rfl) (by kernel_rfl) (fun _ _ _ h => h) (Or.inl ⟨by rfl, ?_⟩) (by assumption) ?_
  rotate_left
  · intro w hSw; (try dsimp only at hSw); go_simp; try with_reducible rfl
  try simp only [put_simp]
  refine wpAnyH_take (i := 2) (v := ?_) rfl (by kernel_rfl) (by kernel_rfl) (by kernel_rfl) (fun _ _ _ h => h) (Or.inl ⟨by rfl, ?_⟩) (by assumption) ?_
  rotate_left
  · intro w hSw; (try dsimp only at hSw); go_simp; try with_reducible rfl
  try simp only [put_simp]
  refine wpAnyH_take (i := 3) (v := ?_) rfl (by kernel_rfl) (by kernel_rfl) (by kernel_rfl) (fun _ _ _ h => h) (Or.inl ⟨by rfl, ?_⟩) (by assumption) ?_
  rotate_left
  · intro w hSw; (try dsimp only at hSw); go_simp; try with_reducible rfl
  try simp only [put_simp]
  refine wpAnyH_take (i := 4) (v := ?_) rfl (by kernel_rfl) (by kernel_rfl) (by kernel_rfl) (fun _ _ _ h => h) (Or.inl ⟨by rfl, ?_⟩) (by assumption) ?_
  rotate_left
  · intro w hSw; (try dsimp only at hSw); go_simp; try with_reducible rfl
  try simp only [put_simp]
  refine wpAnyH_take (i := 5) (v := ?_) rfl (by kernel_rfl) (by kernel_rfl) (by kernel_rfl) (fun _ _ _ h => h) (Or.inl ⟨by rfl, ?_⟩) (by assumption) ?_
  rotate_left
  · intro w hSw; (try dsimp only at hSw); go_simp; try with_reducible rfl
  try simp only [put_simp]
  refine wpAnyH_ready (rs := [6]) (by kernel_rfl) (by simp) ?_
  refine AllReadyH.cons rfl (fun K hK => ?_) ?_
  · go_simp; refine HD.out.mono ?_; rintro _ w3 ⟨rfl, ho3, hw3, hk3⟩; have HO3 := hid ho3; have HW3 := hid hw3; have HK3 := hid hk3; have p3 := Rec.cell ho3.pt 0; have r3 := Rec.cell ho3.row 7; have f3 := Rec.frozen ho3.row 7; have hsl3 := ho3.pt.lt; have hbl3 := ho3.row.lt; simp at p3; simp [rowV, tyV] at r3; clear ho3 hw3 hk3
    refine hK.out _ _ ?_ (fun hHeld => ?_)
    · (first | (simp [go_sem, *]; done))
    clear hK K
    try simp only [put_simp]
    refine wpAnyH_take (i := 7) (v := ?_) rfl (by kernel_rfl) (by kernel_rfl) (by kernel_rfl) (fun _ _ _ h => h) (Or.inl ⟨by rfl, ?_⟩) (by assumption) ?_
    rotate_left
    · intro w hSw; (try dsimp only at hSw); go_simp; try with_reducible rfl
    try simp only [put_simp]
    refine wpAnyH_take (i := 8) (v := ?_) rfl (by kernel_rfl) (by kernel_rfl) (by kernel_rfl) (fun _ _ _ h => h) (Or.inl ⟨by rfl, ?_⟩) (by assumption) ?_
    rotate_left
    · intro w hSw; (try dsimp only at hSw); go_simp; try with_reducible rfl
    try simp only [put_simp]
    refine wpAnyH_done (by kernel_rfl) ?_ _
    change wpList _ _ _ _ _ _
    go_wp2_with fail
    go_end0
    exact ⟨rfl, HEND.out _ HO3.out HW3.out HK3.out⟩
  exact AllReadyH.nil
end Go.Proofs.Ytdeejiiegmddaaa
