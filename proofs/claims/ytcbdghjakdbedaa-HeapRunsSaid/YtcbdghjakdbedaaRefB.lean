/-
  Layer 04: the document's heap: Push; and that both heaps keep apart. No condition.
-/
import Derived.Test.YtcbdghjakdbedaaRefA
import Derived.Deep.RegionLaw
namespace Go.Proofs.Ytcbdghjakdbedaa
open Go Go.RowKit HpI
/-- What the document's functions may write to. -/
def rF (b : Nat) (w : World) (k : Nat) : Prop := k = b ∨ rowOf b w k
def tyAt (w : World) (k : Nat) : Option TypeId := match w.heap[k]? with | some (.cells _ t _) => some t | _ => none
section
variable {B B' : Nat} {w w' : World} {b mb b' : Nat} {most most' : Int} {L L' : List It}
theorem own_ty {e : TypeId} {s n : Nat} {v : Value} {xs : List Value} {g : Nat} (h : w.ownsRow B e s v n xs) (hg : v.ownBlock = some g) : tyAt w g = some e := by
  rcases h.2 with ⟨e0, _⟩ | ⟨g', cap, cur, e0, _, hh, _⟩
  · rw [e0] at hg; simp [Value.ownBlock] at hg
  · rw [e0] at hg
    simp only [Value.ownBlock, Option.some.injEq] at hg
    subst hg
    unfold tyAt; rw [hh]
theorem rec_ty {t : TypeId} {cs : Array Value} {g : Nat} (h : Rec w g t cs) : tyAt w g = some t := by
  have : w.heap[g]? = some (.cells cs t (0, 0)) := h
  unfold tyAt; rw [this]
theorem hF_ty (h : HP B w b mb most L) {k : Nat} (hk : hF b mb w k) : tyAt w k = some tH ∨ tyAt w k = none ∨ tyAt w k = some tI := by
  obtain ⟨l, a1, a2, a3⟩ := h.ex
  obtain ⟨a, c, h1, h2⟩ := a1.ex
  rcases hk with rfl | rfl | ⟨n', c', hk⟩
  · exact .inl (rec_ty h1)
  · obtain ⟨D, ⟨es, clock, hb, _⟩, _⟩ := a1.mp
    refine .inr (.inl ?_)
    unfold tyAt; rw [hb]
  · rw [Rec.cell h1 1] at hk
    simp at hk
    obtain ⟨rfl, -, -⟩ := hk
    exact .inr (.inr (own_ty h2 rfl))
theorem rF_ty (h : RHp B w b most L) {k : Nat} (hk : rF b w k) : tyAt w k = some tR ∨ tyAt w k = some tRI := by
  obtain ⟨a, c, h1, h2⟩ := h.ex
  rcases hk with rfl | ⟨n', c', hk⟩
  · exact .inl (rec_ty h1)
  · rw [Rec.cell h1 1] at hk
    simp at hk
    obtain ⟨rfl, -, -⟩ := hk
    exact .inr (own_ty h2 rfl)
theorem both_apart (h : HP B w b mb most L) (r : RHp B' w b' most' L') {k : Nat} (h1 : hF b mb w k) (h2 : rF b' w k) : False := by
  rcases hF_ty h h1 with e | e | e <;> rcases rF_ty r h2 with e' | e' <;> (rw [e] at e'; first | cases e' | exact absurd e' (by decide))
theorem Kept.ks {X : Nat → Prop} (h : Kept X w w') : KS X w w' := ⟨h.os, h.tape, h.output, h.size, h.block⟩
theorem RHp.ks {X : Nat → Prop} (h : RHp B w b most L) (hk : KS X w w') (hn : ∀ k, rF b w k → ¬ X k) : RHp B w' b most L := by
  obtain ⟨a, c, h1, h2⟩ := h.ex
  refine ⟨h.big, a, c, (hk.block b h1.lt (hn b (.inl rfl))).trans h1, h2.1, ?_⟩
  rcases h2.2 with h3 | ⟨g, cap, cur, hv, hg, hh, hr⟩
  · exact .inl h3
  · have hv' := hv
    injection hv' with ea
    refine .inr ⟨g, cap, cur, hv, hg, (hk.block g (Array.getElem?_eq_some_iff.1 hh).1 (hn g (.inr ⟨L.length, c, ?_⟩))).trans hh, hr⟩
    rw [Rec.cell h1 1, ea]
    rfl
theorem rF_lt (h : RHp B w b most L) {k : Nat} (hk : rF b w k) : B ≤ k ∧ k < w.heap.size := by
  obtain ⟨a, c, h1, h2⟩ := h.ex
  rcases hk with h3 | ⟨n', c', h3⟩
  · rw [h3]; exact ⟨h.big, h1.lt⟩
  · rw [Rec.cell h1 1] at h3
    simp at h3
    obtain ⟨rfl, -, -⟩ := h3
    exact h2.lt k rfl
theorem info_ritem : (Try.prog.info? tRI).map (fun i => (i.zero, i.size, i.bytes)) = some (some (.agg #[.int .u64 0, .int .i64 0, .int .i64 0]), 3, 24) := by kernel_rfl
def rpushL (L : List It) (most : Int) (x : It) : List It := if pushE L most x.id = 0 then L ++ [x] else L
theorem rF_same (hb : w'.heap[b]? = w.heap[b]?) {k : Nat} (h : rF b w' k) : rF b w k := h.imp id (row_same hb)
set_option maxRecDepth 100000 in
set_option maxHeartbeats 4000000 in
theorem RPush_any (h : RHp B w b most L) (hl : L.length ≤ 4096) (hm : most ≤ 4096) (hB : B ≤ w.heap.size) (x : It) :
    Calls Try.prog 9 #[.pointer (some ⟨b, 0, none⟩), .agg #[.int .u64 x.v, .int .i64 x.id], .int .i64 x.x] w (fun e w' => e = .returned (.int .i64 (pushE L most x.id)) ∧ RHp B w' b most (rpushL L most x) ∧ Below B w w' ∧ Kept (rF b w) w w') := by
  have H := hid h
  obtain ⟨j0, ji, jz0, jz1, jz2⟩ := info_parts info_ritem
  have HJ := hid ji
  clear ji
  obtain ⟨xv, xi, xx⟩ := x
  obtain ⟨w1, ew1⟩ : ∃ w1, w1 = w.alloc (.cells #[.int .u64 xv, .int .i64 xi] 30) := ⟨_, rfl⟩
  have hb1 : Below w.heap.size w w1 := by rw [ew1]; exact (Below.refl _ w).alloc (Nat.le_refl _) _
  have hR1 : Rec w1 w.heap.size 30 #[.int .u64 xv, .int .i64 xi] := by rw [ew1]; exact Rec.new w _ _
  have hA1 := h.far hb1
  have HHAS := hid (RHas_any hA1 hl xi)
  have HIN := hid (has_in L xi)
  have HA1 := hid hA1
  have HB1 := hid hb1
  have HR1 := hid hR1
  have EW1 := hid ew1
  have HL := hid (And.intro hl hm)
  obtain ⟨g, eg⟩ : ∃ g, w.heap.size = g := ⟨_, rfl⟩
  have EG := hid eg
  rw [eg] at hR1
  have k1 := Rec.cell hR1 1
  simp at k1
  clear h hb1 hR1 hA1 eg ew1 hl hm
  go_enter Try.func9, Try.ntmps9
  go_wp2_with fail
  rw [← EW1.out, EG.out]
  refine HHAS.out.mono ?_
  rintro _ _ ⟨rfl, xq, rfl⟩
  obtain ⟨w2, ew2⟩ : ∃ w2, w2 = w1.past xq := ⟨_, rfl⟩
  have hbb : Below w1.heap.size w1 w2 := by rw [ew2]; exact w1.below_past xq
  have hb2 := HB1.out.trans (hbb.mono HB1.out.size)
  have hA2 := HA1.out.far hbb
  have hR2 := HR1.out.below hbb (Nat.le_refl _)
  rw [← ew2]
  rw [EG.out] at hR2
  clear ew2 hbb k1 HHAS
  rcases HIN.out with ⟨hno, hz⟩ | ⟨i, hi, hz, hid, -⟩
  · rw [hz]
    have HNO := Go.hid hno
    obtain ⟨a, c, q0, q1, -⟩ := hA2.cells
    obtain ⟨n, en⟩ : ∃ n, L.length = n := ⟨_, rfl⟩
    have EN := Go.hid en
    rw [en] at q1
    have HA2 := Go.hid hA2
    have HR2 := Go.hid hR2
    have HB2 := Go.hid hb2
    clear hA2 hR2 hb2 en hz hno HIN
    by_cases hf : most ≤ (n : Int)
    · have HF := Go.hid hf
      go_wp2_with fail
      refine wp_region_past (by kernel_rfl) (by kernel_rfl) ?_
      repeat (go_big_quiet_step ((fail)))
      refine wpQuiet_nil ?_
      rintro _ ⟨_, rfl⟩
      rename_i x3
      go_wp2_with fail
      go_ret
      have hE : pushE L most xi = 3 := by unfold pushE; rw [if_neg HNO.out, if_pos (by rw [EN.out]; exact HF.out)]
      have hb := HB2.out.trans ((w2.below_past x3).mono HB2.out.size)
      refine ⟨by rw [hE]; rfl, ?_, hb.mono hB, Kept.of_below hb _⟩
      rw [show rpushL L most ⟨xv, xi, xx⟩ = L by unfold rpushL; rw [if_neg (by show ¬ pushE L most xi = 0; rw [hE]; decide)]]
      exact H.out.far hb
    · have HF := Go.hid hf
      go_wp2_with fail
      refine wp_region_past (by kernel_rfl) (by kernel_rfl) ?_
      repeat (go_big_quiet_step ((fail)))
      refine wpQuiet_nil ?_
      rintro _ ⟨_, rfl⟩
      rename_i x3
      have hbb := w2.below_past x3
      obtain ⟨w3, ew3⟩ : ∃ w3, w3 = w2.past x3 := ⟨_, rfl⟩
      rw [← ew3] at hbb ⊢
      have hb3 := HB2.out.trans (hbb.mono HB2.out.size)
      have hA3 := HA2.out.far hbb
      have hR3 := HR2.out.below hbb (Nat.le_refl _)
      clear ew3 hbb q0 q1 x3
      obtain ⟨a3, c3, hrec3, hown3⟩ := hA3.ex
      rw [EN.out] at hrec3
      have k0 := Rec.cell hR3 0
      have k1 := Rec.cell hR3 1
      have d2 := Rec.cell hrec3 1
      have f1 := Rec.frozen hrec3 1
      simp at k0 k1 d2
      have hltb := Rec.lt hrec3
      have hltg := Rec.lt hR3
      have hn4 : n < 4096 := by have := HF.out; have := HL.out.2; omega
      have hs3 : B ≤ w3.heap.size := by have := hb3.size; omega
      have hbg : ¬ b = g := by have := H.out.lt; have := EG.out; omega
      have HREC3 := Go.hid hrec3
      have HON := Go.hid (show w3.drew.ownsRow B tRI 3 (.slice a3 n c3) n (tab itV L) by rw [← EN.out]; exact hown3.drew)
      have HB3 := Go.hid hb3
      have HN4 := Go.hid hn4
      clear hA3 hR3 hrec3 hown3 hb3 hn4
      go_wp2_with fail
      go_region_law ((refine step_pushB rfl (.tmp 26) (.tmp 30) 46 rfl tRI j0 (.agg #[.int .u64 0, .int .i64 0, .int .i64 0]) 3 24 Try.underlying46 HJ.out jz0 jz1 jz2 rfl (by decide) B ?_ (.slice a3 n c3) n (tab itV L) ?_ HON.out _ #[.int .u64 xv, .int .i64 xi, .int .i64 xx] ?_ rfl rfl ?_ ?_ ?_ ?_; (· exact hs3); (· rfl); (· simp [go_sem]); (· simp [Value.oneCell']); (· have := HN4.out; omega); (· have := HN4.out; unfold maxLen; omega); intro w6 g6 c6 ho6 hg6 hap; clear hap; have HO6 := Go.hid ho6; have HG6 := Go.hid hg6; have HR6 := Go.hid (Rec.grown (Rec.drew HREC3.out) HON.out hg6 (by decide)); have f16 : w6.frozen? ⟨b, 1, none⟩ = false := Rec.frozen HR6.out 1; have hlt6 := Rec.lt HR6.out; have d16 : w6.cell? ⟨b, 1, none⟩ = some (.slice a3 n c3) := (by rw [Rec.cell HR6.out]; rfl); clear ho6 hg6))
      all_goals (
        obtain ⟨w7, ew7⟩ : ∃ w7, w7 = w6.setCell ⟨b, 1, none⟩ (.slice (some ⟨g6, 0, none⟩) (n + 1) c6) := ⟨_, rfl⟩
        have l1 : (L ++ [(⟨xv, xi, xx⟩ : It)]).length = n + 1 := by rw [List.length_append, EN.out]; rfl
        have hA7 : RHp B w7 b most (L ++ [⟨xv, xi, xx⟩]) := by
          refine ⟨H.out.big, some ⟨g6, 0, none⟩, c6, ?_, ?_⟩
          · have := Rec.set HR6.out 1 (.slice (some ⟨g6, 0, none⟩) (n + 1) c6)
            rw [l1, ew7]
            simpa using this
          · have := own_setB HO6.out HR6.out (by decide) 1 (.slice (some ⟨g6, 0, none⟩) (n + 1) c6)
            rw [l1, ew7, ← tab_snoc]
            exact this
        have hb7 : Below B w w7 := by
          rw [ew7]
          exact (((HB3.out.mono hB).drew).grown HG6.out hs3 (fun k hk => (HON.out.lt k hk).1)).setCell (p := ⟨b, 1, none⟩) H.out.big _
        have hk7 : Kept (rF b w) w w7 := by
          have k1 : Kept (rF b w) w w3.drew := (Kept.of_below HB3.out _).drew
          have k2 : Kept (rF b w3.drew) w3.drew w6 := by
            refine ⟨HG6.out.os, HG6.out.tape, HG6.out.output, HG6.out.size, fun k hk hn => HG6.out.block k hk (fun e => hn ?_)⟩
            rcases HON.out.2 with ⟨e0, _⟩ | ⟨q, cap, cur, e0, _, hh, _⟩
            · rw [e0] at e; simp [Value.ownBlock] at e
            · rw [e0] at e
              simp only [Value.ownBlock, Option.some.injEq] at e
              subst e
              injection e0 with ea
              refine .inr ⟨n, c3, ?_⟩
              rw [Rec.cell (Rec.drew HREC3.out) 1, ← ea]
              rfl
          rw [ew7]
          exact (k1.trans' k2 (fun i hi hf => rF_same (HB3.out.block b H.out.lt) hf)).setCell (p := ⟨b, 1, none⟩) (.inr (.inl rfl)) _
        rw [← ew7]
        have HA7 := Go.hid hA7
        have HB7 := Go.hid hb7
        have HK7 := Go.hid hk7
        clear hA7 hb7 hk7 ew7 l1 d16 f16 hlt6
        go_wp2_with fail
        go_ret
        have hE : pushE L most xi = 0 := by unfold pushE; rw [if_neg HNO.out, if_neg (by rw [EN.out]; have := HF.out; omega)]
        refine ⟨by rw [hE]; rfl, ?_, HB7.out, HK7.out⟩
        rw [show rpushL L most ⟨xv, xi, xx⟩ = L ++ [⟨xv, xi, xx⟩] by unfold rpushL; rw [if_pos (show pushE L most xi = 0 from hE)]]
        exact HA7.out)
  · rw [hz]
    have HID := Go.hid (show xi ∈ L.map (·.id) from List.mem_map.2 ⟨L[i], List.getElem_mem hi, hid⟩)
    have HB2 := Go.hid hb2
    have hi0 : (0 : Int) ≤ i := by omega
    clear hA2 hR2 hb2 hz hid HIN
    go_wp2_with fail
    go_ret
    have hE : pushE L most xi = 12 := by unfold pushE; rw [if_pos HID.out]
    refine ⟨by rw [hE]; rfl, ?_, HB2.out.mono hB, Kept.of_below HB2.out _⟩
    rw [show rpushL L most ⟨xv, xi, xx⟩ = L by unfold rpushL; rw [if_neg (by show ¬ pushE L most xi = 0; rw [hE]; decide)]]
    exact H.out.far HB2.out
end
end Go.Proofs.Ytcbdghjakdbedaa
