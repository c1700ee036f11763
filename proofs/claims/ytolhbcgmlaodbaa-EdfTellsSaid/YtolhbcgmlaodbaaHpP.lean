/-
  Layer 04 (heaps), at this dump: heaps of pointers to ints: Move. No condition.
-/
import Derived.Test.YtolhbcgmlaodbaaHpK
import Derived.Deep.RegionLaw
import Derived.Test.YtolhbcgmlaodbaaAppC
namespace Go.Proofs.Ytolhbcgmlaodbaa.HpI
open Go Go.RowKit Go.Proofs.Ytolhbcgmlaodbaa
abbrev zval : Value := .pointer none
abbrev nby : Nat := 24
theorem info_item : (Try.prog.info? tI).map (fun i => (i.zero, i.size, i.bytes)) = some (some (.agg #[.int .u64 0, .int .i64 0, zval]), 3, nby) := by kernel_rfl
/-- A heap that holds L, in whatever order. -/
structure HP (B : Nat) (w : World) (b mb : Nat) (most : Int) (L : List (Hp.It A)) : Prop where
  ex : ∃ l, HAt B w b mb most l ∧ Hp.Ord l ∧ l.Perm L
  good : Good L
section
variable {B : Nat} {w w' : World} {b mb : Nat} {most : Int} {l L : List (Hp.It A)}
theorem HP.far (h : HP B w b mb most L) (hb : Below w.heap.size w w') : HP B w' b mb most L := by
  obtain ⟨l, h1, h2, h3⟩ := h.ex
  exact ⟨⟨l, h1.far hb, h2, h3⟩, h.good⟩
theorem HP.perm {L' : List (Hp.It A)} (h : HP B w b mb most L) (p : L.Perm L') : HP B w b mb most L' := by
  obtain ⟨l, h1, h2, h3⟩ := h.ex
  exact ⟨⟨l, h1, h2, h3.trans p⟩, h.good.perm p.symm⟩
theorem HP.lt (h : HP B w b mb most L) : b < w.heap.size := by
  obtain ⟨l, h1, _⟩ := h.ex
  exact h1.lt
theorem idx_some_iff {z : Int} (hnd : (l.map (·.id)).Nodup) : (idx l z).isSome = true ↔ z ∈ l.map (·.id) := by
  constructor
  · intro h
    apply Classical.byContradiction
    intro hn
    rw [idx_none (fun x hx e => hn (List.mem_map.2 ⟨x, hx, e⟩))] at h
    cases h
  · intro h
    obtain ⟨x, hx, rfl⟩ := List.mem_map.1 h
    obtain ⟨j, hj, rfl⟩ := List.getElem_of_mem hx
    rw [idx_at hnd hj]
    rfl
theorem past_map {f : Int → Option Int} {c : Nat} (h : MapI Try.prog 3 w mb f c) (z : Int) (hz : I64 z) (x : Past) :
    (Instr.lookup 61 (.map (some mb)) (.int .i64 z) true).run Try.prog (w.past x) = .ok (.tuple #[.int .i64 ((f z).getD 0), .bool (f z).isSome]) (w.past x) :=
  (h.below (w.below_past x) h.lt).look (by kernel_rfl) (by kernel_rfl) (by go_simp) hz
theorem idx_snoc (x : Hp.It A) (hnd : ((l ++ [x]).map (·.id)).Nodup) (z : Int) : upd (idx l) x.id (some (l.length : Int)) z = idx (l ++ [x]) z := by
  have hl : (l.map (·.id)).Nodup := by rw [List.map_append, List.nodup_append] at hnd; exact hnd.1
  unfold upd
  by_cases e : z = x.id
  · subst e
    rw [if_pos rfl]
    have h1 := idx_at hnd (j := l.length) (by simp)
    rw [List.getElem_append_right (Nat.le_refl _)] at h1
    simp only [Nat.sub_self, List.getElem_cons_zero] at h1
    exact h1.symm
  · rw [if_neg e]
    by_cases hz : z ∈ l.map (·.id)
    · obtain ⟨y, hy, rfl⟩ := List.mem_map.1 hz
      obtain ⟨j, hj, rfl⟩ := List.getElem_of_mem hy
      rw [idx_at hl hj]
      have h1 := idx_at hnd (j := j) (by simp; omega)
      rw [List.getElem_append_left hj] at h1
      exact h1.symm
    · rw [idx_none (fun y hy e' => hz (List.mem_map.2 ⟨y, hy, e'⟩)), idx_none (fun y hy e' => ?_)]
      rcases List.mem_append.1 hy with hy | hy
      · exact hz (List.mem_map.2 ⟨y, hy, e'⟩)
      · rw [List.mem_singleton.1 hy] at e'
        exact e e'.symm
theorem up_snoc (x : Hp.It A) (h : Hp.Ord l) : Hp.Up (l ++ [x]) l.length := by
  refine ⟨fun k hk hkl k0 => ?_, fun k hk k0 hp _ => ?_⟩
  · have hkl' : k < l.length := by simp at hkl; omega
    have hp := Hp.par_lt k0
    rw [List.getElem_append_left hkl', List.getElem_append_left (by omega : Hp.par k < l.length)]
    exact h k hkl' k0
  · have := Hp.par_lt k0
    simp at hk
    omega
theorem Good.snoc (h : Good l) (x : Hp.It A) (hn : ¬ x.id ∈ l.map (·.id)) (hx : I64 x.id) (hl : l.length < 4096) : Good (l ++ [x]) := by
  refine ⟨?_, fun y hy => ?_, by simp; omega⟩
  · rw [List.map_append, List.nodup_append]
    refine ⟨h.nd, by simp, fun a ha c hc e => ?_⟩
    simp at hc
    subst hc e
    exact hn ha
  · rcases List.mem_append.1 hy with hy | hy
    · exact h.i64 y hy
    · rw [List.mem_singleton.1 hy]; exact hx
/-- What Push answers. -/
def pushE (L : List (Hp.It A)) (most : Int) (id : Int) : Int := if id ∈ L.map (·.id) then 12 else if most ≤ L.length then 3 else 0
def pushL (L : List (Hp.It A)) (most : Int) (x : Hp.It A) : List (Hp.It A) := if pushE L most x.id = 0 then x :: L else L
set_option maxRecDepth 100000 in
set_option maxHeartbeats 4000000 in
theorem Push_any (h : HP B w b mb most L) (hm : most ≤ 4096) (hB : B ≤ w.heap.size) (x : Hp.It A) (hx : I64 x.id) :
    Calls Try.prog 31 #[.pointer (some ⟨b, 0, none⟩), .agg #[.int .u64 x.v, .int .i64 x.id], val x.x] w (fun e w' => e = .returned (.int .i64 (pushE L most x.id)) ∧ HP B w' b mb most (pushL L most x) ∧ Below B w w' ∧ HGrew b mb w w') := by
  have H := hid h
  have HX := hid (And.intro hx hm)
  obtain ⟨j0, ji, jz0, jz1, jz2⟩ := info_parts info_item
  have HJ := hid ji
  clear ji
  obtain ⟨l, h1, h2, h3⟩ := h.ex
  obtain ⟨xv, xi, xx⟩ := x
  obtain ⟨w1, ew1⟩ : ∃ w1, w1 = w.alloc (.cells #[.int .u64 xv, .int .i64 xi] 71) := ⟨_, rfl⟩
  have hb1 : Below w.heap.size w w1 := by rw [ew1]; exact (Below.refl _ w).alloc (Nat.le_refl _) _
  have hR1 : Rec w1 w.heap.size 71 #[.int .u64 xv, .int .i64 xi] := by rw [ew1]; exact Rec.new w _ _
  have h1' := h1.far hb1
  have HA := hid h1'
  have HO := hid (And.intro h2 h3)
  have HB1 := hid hb1
  have HR1 := hid hR1
  have EW1 := hid ew1
  obtain ⟨g, eg⟩ : ∃ g, w.heap.size = g := ⟨_, rfl⟩
  have EG := hid eg
  rw [eg] at hR1
  have k0 := Rec.cell hR1 0
  have k1 := Rec.cell hR1 1
  simp at k0 k1
  obtain ⟨a, c, q0, q1, q2, -⟩ := h1'.cells
  have hlook := past_map h1'.mp xi hx
  clear h hx hm h1 h2 h3 hb1 hR1 h1' eg ew1
  go_enter Try.func31, Try.ntmps31
  go_wp2_with fail
  rw [← EW1.out, EG.out]
  refine wp_region_past (by kernel_rfl) (by kernel_rfl) ?_
  repeat (go_big_quiet_step ((fail)))
  refine wpQuiet_nil ?_
  rintro _ ⟨_, rfl⟩
  rename_i xq
  have hL := HO.out.2
  by_cases hthere : (idx l xi).isSome = true
  · have HT := hid hthere
    rw [hthere]
    clear hthere hL
    go_wp2_with fail
    go_ret
    have hin : xi ∈ L.map (·.id) := ((HO.out.2.map _).mem_iff).1 ((idx_some_iff (H.out.good.perm HO.out.2).nd).1 HT.out)
    have hE : pushE L most xi = 12 := by unfold pushE; rw [if_pos hin]
    have hb := HB1.out.trans ((w1.below_past xq).mono HB1.out.size)
    refine ⟨by rw [hE]; rfl, ?_, hb.mono hB, (HKept.of_below hb H.out.lt).grew⟩
    have e : pushL L most ⟨xv, xi, xx⟩ = L := by unfold pushL; rw [if_neg (by show ¬ pushE L most xi = 0; rw [hE]; decide)]
    rw [e]
    exact H.out.far hb
  · have HT := hid hthere
    rw [Bool.not_eq_true] at hthere
    rw [hthere]
    have hb2 := HB1.out.trans ((w1.below_past xq).mono HB1.out.size)
    have hbb := w1.below_past xq
    obtain ⟨w2, ew2⟩ : ∃ w2, w2 = w1.past xq := ⟨_, rfl⟩
    have hA2 := HA.out.far hbb
    have hR2 := HR1.out.below hbb (Nat.le_refl _)
    rw [← ew2] at hb2 hA2 hR2 ⊢
    rw [EG.out] at hR2
    clear ew2 hbb q0 q1 q2 k0 k1 hlook a c
    have k0 := Rec.cell hR2 0
    have k1 := Rec.cell hR2 1
    simp at k0 k1
    obtain ⟨a, c, q0, q1, q2, -⟩ := hA2.cells
    have HB2 := hid hb2
    have HA2 := hid hA2
    have HR2 := hid hR2
    obtain ⟨n, en⟩ : ∃ n, l.length = n := ⟨_, rfl⟩
    have EN := hid en
    rw [en] at q1
    clear hb2 hA2 hR2 hthere hL en
    by_cases hf : most ≤ (n : Int)
    · have HF := hid hf
      go_wp2_with fail
      refine wp_region_past (by kernel_rfl) (by kernel_rfl) ?_
      repeat (go_big_quiet_step ((fail)))
      refine wpQuiet_nil ?_
      rintro _ ⟨_, rfl⟩
      rename_i x3
      go_wp2_with fail
      go_ret
      have hin : ¬ xi ∈ L.map (·.id) := fun h => HT.out ((idx_some_iff (H.out.good.perm HO.out.2).nd).2 (((HO.out.2.map _).mem_iff).2 h))
      have hE : pushE L most xi = 3 := by unfold pushE; rw [if_neg hin, if_pos (by rw [← HO.out.2.length_eq, EN.out]; exact HF.out)]
      have hb := HB2.out.trans ((w2.below_past x3).mono HB2.out.size)
      refine ⟨by rw [hE]; rfl, ?_, hb.mono hB, (HKept.of_below hb H.out.lt).grew⟩
      have e : pushL L most ⟨xv, xi, xx⟩ = L := by unfold pushL; rw [if_neg (by show ¬ pushE L most xi = 0; rw [hE]; decide)]
      rw [e]
      exact H.out.far hb
    · have HF := hid hf
      go_wp2_with fail
      refine wp_region_past (by kernel_rfl) (by kernel_rfl) ?_
      repeat (go_big_quiet_step ((fail)))
      refine wpQuiet_nil ?_
      rintro _ ⟨_, rfl⟩
      rename_i x3
      have hb3 := HB2.out.trans ((w2.below_past x3).mono HB2.out.size)
      have hbb := w2.below_past x3
      obtain ⟨w3, ew3⟩ : ∃ w3, w3 = w2.past x3 := ⟨_, rfl⟩
      have hA3 := HA2.out.far hbb
      have hR3 := HR2.out.below hbb (Nat.le_refl _)
      rw [← ew3] at hb3 hA3 hR3 ⊢
      clear ew3 hbb q0 q1 q2 k0 k1 x3
      have k0 := Rec.cell hR3 0
      have k1 := Rec.cell hR3 1
      simp at k0 k1
      obtain ⟨a3, c3, q0, q1, q2, -⟩ := hA3.cells
      rw [EN.out] at q1
      have HB3 := hid hb3
      have HA3 := hid hA3
      have HR3 := hid hR3
      have hlen := H.out.good.len
      rw [← HO.out.2.length_eq, EN.out] at hlen
      have hn4 : n < 4096 := by have := HF.out; have := HX.out.2; omega
      have HN4 := hid hn4
      clear hb3 hA3 hR3 hlen hn4
      go_wp2_with fail
      refine wp_region_last (C := fun w' => ∃ x : Past, w' = w3.past x) 11 [] (by kernel_rfl) (by kernel_rfl) (by kernel_rfl) rfl (by kernel_rfl) (.inl rfl) (past_of ⟨rfl, rfl, rfl, Nat.le_refl _, fun _ _ => rfl⟩) ?_
      simp only [List.take_succ_cons, List.take_zero]
      repeat (go_big_quiet_step ((fail)))
      refine wpQuiet_nil ?_
      rintro _ ⟨xq, rfl⟩
      have hbb := w3.below_past xq
      have hA4 := HA3.out.far hbb
      have hR4 := HR3.out.below hbb (Nat.le_refl _)
      obtain ⟨w4, ew4⟩ : ∃ w4, w4 = w3.past xq := ⟨_, rfl⟩
      rw [← ew4] at hbb hA4 hR4 ⊢
      have HBB := hid hbb
      have HA4 := hid hA4
      have HR4 := hid hR4
      obtain ⟨w5, r5, m5, g5, -⟩ := hA4.mp.store (m := 61) (x := xi) (y := (n : Int)) (by kernel_rfl) (by kernel_rfl) HX.out.1 (by unfold I64; have := HN4.out; omega) (by rw [EN.out]; unfold maxLen; have := HN4.out; omega)
      have M5 := hid m5
      have G5 := hid g5
      clear ew4 hbb hA4 hR4 m5 g5
      obtain ⟨a5, c5, hrec4, hown4⟩ := HA4.out.ex
      have hrec5 : Rec w5 b tH #[.int .i64 most, .slice a5 l.length c5, .map (some mb)] := (G5.out.block b hrec4.lt (fun e => rec_not_map hrec4 HA4.out.mp (by injection e))).trans hrec4
      have hown5 := hown4.kept G5.out (.inr fun e => own_not_map hown4 HA4.out.mp e.symm)
      have hkey5 : Rec w5 g 71 #[.int .u64 xv, .int .i64 xi] := (G5.out.block g HR4.out.lt (fun e => rec_not_map HR4.out HA4.out.mp (by injection e))).trans HR4.out
      have hb5 : Below B w w5 := ((HB3.out.trans (HBB.out.mono HB3.out.size)).mono hB).grown G5.out (by have := HA4.out.big; have := HA4.out.lt; omega) (fun j e => by injection e with e; have := HA4.out.mbig; omega)
      have d0 := Rec.cell hkey5 0
      have d1 := Rec.cell hkey5 1
      have d2 := Rec.cell hrec5 1
      have f1 := Rec.frozen hrec5 1
      simp at d0 d1 d2
      rw [EN.out] at d2
      have hlt5 := Rec.lt hrec5
      have hltg := Rec.lt hkey5
      have hs5 : B ≤ w5.heap.size := by have := HA4.out.big; omega
      have hbg : ¬ b = g := by
        intro e
        have h1 := hrec5
        have h2 := hkey5
        rw [← e] at h2
        have h3 : w5.heap[b]? = some (.cells #[.int .u64 xv, .int .i64 xi] 71 (0, 0)) := h2
        have h4 : w5.heap[b]? = some (.cells #[.int .i64 most, .slice a5 l.length c5, .map (some mb)] tH (0, 0)) := h1
        rw [h3] at h4
        injection h4 with h4
        injection h4 with _ h4
        exact absurd h4 (by decide)
      have HREC5 := hid hrec5
      have HOWN5 := hid hown5
      have HKEY5 := hid hkey5
      have HB5 := hid hb5
      have HON := hid (show w5.drew.ownsRow B tI 3 (.slice a5 n c5) n (tab itV l) by rw [← EN.out]; exact hown5.drew)
      clear hrec4 hown4 hrec5 hown5 hkey5 hb5 k0 k1 q0 q1 q2
      refine wpOp_step rfl (fun K hK => ?_)
      go_simp
      refine hK _ _ ?_
      clear hK K
      go_wp2_with fail
      go_region_law ((refine step_pushB rfl (.tmp 47) (.tmp 51) 62 rfl tI j0 (.agg #[.int .u64 0, .int .i64 0, zval]) 3 nby Try.underlying62 HJ.out jz0 jz1 jz2 rfl (by decide) B ?_ (.slice a5 n c5) n (tab itV l) ?_ HON.out _ #[.int .u64 xv, .int .i64 xi, val xx] ?_ rfl rfl ?_ ?_ ?_ ?_; (· exact hs5); (· rfl); (· simp [go_sem]); (· simp [Value.oneCell']); (· have := HN4.out; unfold nby; omega); (· have := HN4.out; unfold maxLen; omega); intro w6 g6 c6 ho6 hg6 hap; have HAP := hid hap; clear hap; have HO6 := hid ho6; have HG6 := hid hg6; have HR6 := hid (Rec.grown (Rec.drew HREC5.out) HON.out hg6 (by decide)); have f16 : w6.frozen? ⟨b, 1, none⟩ = false := Rec.frozen HR6.out 1; have hlt6 := Rec.lt HR6.out; have d16 : w6.cell? ⟨b, 1, none⟩ = some (.slice a5 n c5) := (by rw [Rec.cell HR6.out, ← EN.out]; rfl); clear ho6 hg6))
      all_goals (
        have hnm : some mb ≠ (Value.slice a5 n c5).ownBlock := own_not_map (w := w5.drew) HON.out (M5.out.block rfl)
        have hbm : b ≠ mb := rec_not_map HREC5.out M5.out
        obtain ⟨w7, ew7⟩ : ∃ w7, w7 = w6.setCell ⟨b, 1, none⟩ (.slice (some ⟨g6, 0, none⟩) (n + 1) c6) := ⟨_, rfl⟩
        have hnd' := H.out.good.perm HO.out.2
        have hxi : ¬ xi ∈ l.map (·.id) := fun h => HT.out ((idx_some_iff hnd'.nd).2 h)
        have hg7 : Good (l ++ [⟨xv, xi, xx⟩]) := hnd'.snoc ⟨xv, xi, xx⟩ hxi HX.out.1 (by rw [EN.out]; exact HN4.out)
        have l1 : (l ++ [(⟨xv, xi, xx⟩ : Hp.It A)]).length = n + 1 := by rw [List.length_append, EN.out]; rfl
        have hA7 : HAt B w7 b mb most (l ++ [⟨xv, xi, xx⟩]) := by
          refine ⟨HA4.out.big, HA4.out.mbig, ⟨some ⟨g6, 0, none⟩, c6, ?_, ?_⟩, ?_⟩
          · have := Rec.set HR6.out 1 (.slice (some ⟨g6, 0, none⟩) (n + 1) c6)
            rw [l1, ew7]
            simpa using this
          · have := own_setB HO6.out HR6.out (by decide) 1 (.slice (some ⟨g6, 0, none⟩) (n + 1) c6)
            rw [l1, ew7, ← tab_snoc]
            exact this
          · have h1 := (M5.out.block (w' := w5.drew) rfl).grown HG6.out hnm
            rw [if_neg HT.out] at h1
            have h2 := h1.block (w' := w7) (by rw [ew7]; exact heap_setCell_other _ _ _ _ (fun e => hbm e.symm))
            rw [show (l ++ [(⟨xv, xi, xx⟩ : Hp.It A)]).length = l.length + 1 by rw [l1, EN.out]]
            refine h2.ext (fun z => ?_)
            rw [← EN.out]
            exact idx_snoc ⟨xv, xi, xx⟩ hg7.nd z
        have hb7 : Below B w w7 := by
          rw [ew7]
          exact (HB5.out.drew.grown HG6.out hs5 (fun k hk => (HON.out.lt k hk).1)).setCell (p := ⟨b, 1, none⟩) HA4.out.big _
        have hk7 : HGrew b mb w w7 := by
          have k1 : HKept b mb w w3 := HKept.of_below HB3.out H.out.lt
          have k2 : HKept b mb w3 w4 := HKept.of_below HBB.out HA3.out.lt
          have k3 : HKept b mb w4 w5 := HKept.map G5.out HA4.out.lt hbm
          have k4 : HKept b mb w5 w5.drew := HKept.of_below (Below.refl _ _).drew hlt5
          have k5 : HKept b mb w5.drew w6 := HKept.row' (Rec.drew HREC5.out) HOWN5.out.drew (by rw [EN.out]; exact HG6.out)
          have k6 : HGrew b mb w5.drew w7 := by
            refine ⟨by rw [ew7]; exact Kept.setCell k5.kept (p := ⟨b, 1, none⟩) (.inr (.inl rfl)) _, fun q hq => ?_⟩
            obtain ⟨n8, c8, h8⟩ := hq
            rw [ew7, Rec.cell (Rec.set HR6.out 1 _) 1] at h8
            simp at h8
            obtain ⟨e8, _, _⟩ := h8
            subst e8
            apply Classical.byContradiction
            intro hno
            have h9 : ¬ rowOf b w5.drew g6 := fun h => hno (.inl h)
            have h10 : g6 < w5.heap.size := by have : ¬ w5.heap.size ≤ g6 := fun h => hno (.inr h); omega
            have h11 : Apart (.slice (some ⟨g6, 0, none⟩) 1 1) (.slice a5 n c5) := by
              refine .inr (.inr fun e => h9 ?_)
              rcases HON.out.2 with ⟨e0, _⟩ | ⟨gx, capx, cur, e0, _, hh, _⟩
              · rw [e0] at e; simp [Value.ownBlock] at e
              · rw [e0] at e
                simp only [Value.ownBlock, Option.some.injEq] at e
                injection e0 with ea
                refine ⟨n, c5, ?_⟩
                show w5.cell? _ = _
                rw [d2, ea, e]
            have h12 := HAP.out _ h11 (fun k hk => by simp only [Value.ownBlock, Option.some.injEq] at hk; rw [← hk]; exact h10)
            rcases h12 with h | h | h
            · simp [Value.ownBlock] at h
            · simp [Value.ownBlock] at h
            · exact h rfl
          exact (((k1.trans k2).trans k3).trans k4).grew.trans k6
        have hS7 : HSt B w7 b mb most (l ++ [⟨xv, xi, xx⟩]) (l ++ [⟨xv, xi, xx⟩]) w7 := ⟨hA7, List.Perm.refl _, Below.refl _ _, HKept.refl _ _ _⟩
        obtain ⟨a7, c7, -, r1, -, -⟩ := hA7.cells
        rw [l1] at r1
        have e1 : IntKind.i64.wrap (((n + 1 : Nat) : Int) - 1) = n := by have := HN4.out; rw [IntKind.wrap_i64] <;> omega
        have HUP := hid (up_any hg7 hS7 (by have := hA7.big; have := hA7.lt; omega) l.length (by rw [l1, EN.out]; omega) (up_snoc ⟨xv, xi, xx⟩ HO.out.1))
        rw [EN.out] at HUP
        have HB7 := hid hb7
        have HK7 := hid hk7
        have HG7 := hid hg7
        rw [← ew7]
        clear hnm hbm ew7 hnd' hxi l1 hA7 hb7 hk7 hS7 d16 f16 hlt6 hg7 d0 d1 d2 f1 hlt5 hltg r5
        obtain ⟨n1, en1⟩ : ∃ n1, n + 1 = n1 := ⟨_, rfl⟩
        rw [en1] at r1 e1
        clear HO6 HR6
        go_wp2_with fail
        refine HUP.out.mono ?_
        rintro _ w8 ⟨rfl, l8, o8, s8⟩
        have O8 := hid (And.intro o8 s8)
        clear o8 s8 HUP
        go_wp2_with fail
        go_ret
        have hin : ¬ xi ∈ L.map (·.id) := fun h => HT.out ((idx_some_iff (H.out.good.perm HO.out.2).nd).2 (((HO.out.2.map _).mem_iff).2 h))
        have hE : pushE L most xi = 0 := by unfold pushE; rw [if_neg hin, if_neg (by rw [← HO.out.2.length_eq, EN.out]; have := HF.out; omega)]
        have e : pushL L most ⟨xv, xi, xx⟩ = ⟨xv, xi, xx⟩ :: L := by unfold pushL; rw [if_pos (show pushE L most xi = 0 from hE)]
        have hp : (l ++ [(⟨xv, xi, xx⟩ : Hp.It A)]).Perm (⟨xv, xi, xx⟩ :: L) := (List.perm_append_singleton _ _).trans (List.Perm.cons _ HO.out.2)
        refine ⟨by rw [hE]; rfl, ?_, HB7.out.trans O8.out.2.bel, HK7.out.trans O8.out.2.kept.grew⟩
        rw [e]
        exact ⟨⟨l8, O8.out.2.at', O8.out.1, O8.out.2.perm.trans hp⟩, HG7.out.perm hp.symm⟩)
end

end Go.Proofs.Ytolhbcgmlaodbaa.HpI
namespace Go.Proofs.Ytolhbcgmlaodbaa.HpI
open Go Go.RowKit Go.Proofs.Ytolhbcgmlaodbaa
section
variable {B : Nat} {w w' : World} {b mb : Nat} {most : Int} {l L : List (Hp.It A)}
set_option maxRecDepth 100000 in
set_option maxHeartbeats 4000000 in
theorem Len_any (h : HP B w b mb most L) : Calls Try.prog 38 #[.pointer (some ⟨b, 0, none⟩)] w (fun e w' => e = .returned (.int .i64 L.length) ∧ w' = w) := by
  obtain ⟨l, h1, h2, h3⟩ := h.ex
  obtain ⟨a, c, q0, q1, q2, -⟩ := h1.cells
  have HL := hid h3.length_eq
  obtain ⟨n, en⟩ : ∃ n, l.length = n := ⟨_, rfl⟩
  have EN := hid en
  rw [en] at q1
  clear h h1 h2 h3 en
  go_enter Try.func38, Try.ntmps38
  go_wp2_with fail
  go_ret
  exact ⟨by rw [← HL.out, EN.out]; rfl, rfl⟩
theorem HAt.outside (h : HAt B w b mb most l) {q : Nat} (hq : ¬ hF b mb w q) (o : Nat) (v : Value) : HAt B (w.setCell ⟨q, o, none⟩ v) b mb most l := by
  obtain ⟨a, c, h1, h2⟩ := h.ex
  have e1 : b ≠ q := fun e => hq (.inl e.symm)
  have e2 : mb ≠ q := fun e => hq (.inr (.inl e.symm))
  refine ⟨h.big, h.mbig, ⟨a, c, Rec.set_other h1 (p := ⟨q, o, none⟩) (fun e => e1 e.symm) v, h2.1, ?_⟩, h.mp.block (heap_setCell_other _ _ _ _ e2)⟩
  rcases h2.2 with h3 | ⟨g, cap, cur, hv, hg, hh, hr⟩
  · exact .inl h3
  · have hv' := hv
    injection hv' with ea
    refine .inr ⟨g, cap, cur, hv, hg, (heap_setCell_other _ _ _ _ (fun e => hq (.inr (.inr ⟨l.length, c, ?_⟩)))).trans hh, hr⟩
    rw [Rec.cell h1 1, ea]
    have e3 : g = q := e
    rw [e3]
    rfl
theorem hF_later {q : Nat} (hk : HKept b mb w w') (hn : ¬ hF b mb w q) (hq : q < w.heap.size) : ¬ hF b mb w' q := by
  rintro (h | h | h)
  · exact hn (.inl h)
  · exact hn (.inr (.inl h))
  · exact hn (.inr (.inr (hk.row q h)))
theorem row_set {q o : Nat} {v : Value} (hne : b ≠ q) {g : Nat} (h : rowOf b (w.setCell ⟨q, o, none⟩ v) g) : rowOf b w g := row_same (heap_setCell_other _ _ _ _ hne) h
end

section
variable {B : Nat} {w w' : World} {b mb : Nat} {most : Int} {l L : List (Hp.It A)}
theorem idx_take {k : Nat} {x : Hp.It A} (hnd : (l.map (·.id)).Nodup) (hl : l.length = k + 1) (hx : l[k]? = some x) (z : Int) : upd (idx l) x.id none z = idx (l.take k) z := by
  have hk : k < l.length := by omega
  have hxe : l[k] = x := (List.getElem?_eq_some_iff.1 hx).2
  have hnd' : ((l.take k).map (·.id)).Nodup := by rw [List.map_take]; exact hnd.sublist (List.take_sublist _ _)
  unfold upd
  by_cases e : z = x.id
  · subst e
    rw [if_pos rfl, idx_none (fun y hy e' => ?_)]
    obtain ⟨j, hj, rfl⟩ := List.getElem_of_mem hy
    rw [List.getElem_take, ← hxe] at e'
    simp at hj
    have := nodup_at hnd (by omega : j < l.length) hk e'
    omega
  · rw [if_neg e]
    by_cases hz : z ∈ (l.take k).map (·.id)
    · obtain ⟨y, hy, rfl⟩ := List.mem_map.1 hz
      obtain ⟨j, hj, rfl⟩ := List.getElem_of_mem hy
      rw [idx_at hnd' hj, List.getElem_take]
      simp at hj
      exact idx_at hnd (by omega)
    · rw [idx_none (l := l.take k) (fun y hy e' => hz (List.mem_map.2 ⟨y, hy, e'⟩)), idx_none (fun y hy e' => ?_)]
      obtain ⟨j, hj, rfl⟩ := List.getElem_of_mem hy
      by_cases hjk : j = k
      · subst hjk; rw [hxe] at e'; exact e e'.symm
      · exact hz (List.mem_map.2 ⟨l[j], List.mem_take_iff_getElem.2 ⟨j, by omega, rfl⟩, e'⟩)
theorem dn_cut {i k : Nat} (hO : Hp.Ord l) (hl : l.length = k + 1) (hi : i < k) : Hp.Dn ((Hp.swp l i k (by omega) (by omega)).take k) i := by
  have hg : ∀ q (hq : q < ((Hp.swp l i k (by omega) (by omega)).take k).length), q ≠ i → ((Hp.swp l i k (by omega) (by omega)).take k)[q] = l[q]'(by simp [Hp.swp_length] at hq; omega) := fun q hq hqi => by
    have hq' : q < k := by simp [Hp.swp_length] at hq; omega
    rw [List.getElem_take, Hp.swp_get l i k (by omega) (by omega) q (by omega), if_neg (by omega), if_neg hqi]
  have hlen : ((Hp.swp l i k (by omega) (by omega)).take k).length = k := by simp [Hp.swp_length]; omega
  refine ⟨fun q hqi hqp hq q0 => ?_, fun q hq q0 hqp i0 => ?_⟩
  · have hp := Hp.par_lt q0
    rw [hg q hq hqi, hg (Hp.par q) (by omega) (hqp q0)]
    exact hO q (by omega) q0
  · have hp := Hp.par_lt i0
    have hqq := Hp.par_lt q0
    rw [hg q hq (by omega), hg (Hp.par i) (by omega) (by omega)]
    have h1 := hO q (by omega) q0
    have h2 := hO i (by omega) i0
    simp only [hqp] at h1
    exact Hp.nlt_trans h2 h1
/-- The key's box is filled. -/
theorem take_end {s0 : Nat} (h : HAt B w' b mb most l) (hn : ¬ hF b mb w' s0) (hk : HKept b mb w w') (hs : w.heap.size ≤ s0) (hb : Below B w w') (hB : B ≤ s0) (u u' : Value) :
    HAt B ((w'.setCell ⟨s0, 0, none⟩ u).setCell ⟨s0, 1, none⟩ u').drew b mb most l ∧ HKept b mb w ((w'.setCell ⟨s0, 0, none⟩ u).setCell ⟨s0, 1, none⟩ u').drew ∧ Below B w ((w'.setCell ⟨s0, 0, none⟩ u).setCell ⟨s0, 1, none⟩ u').drew := by
  have e1 : b ≠ s0 := fun e => hn (.inl e.symm)
  have hn2 : ¬ hF b mb (w'.setCell ⟨s0, 0, none⟩ u) s0 := by
    rintro (h | h | h)
    · exact hn (.inl h)
    · exact hn (.inr (.inl h))
    · exact hn (.inr (.inr (row_set e1 h)))
  refine ⟨((h.outside hn 0 u).outside hn2 1 u').far (Below.refl _ _).drew, ⟨((hk.kept.setCell (p := ⟨s0, 0, none⟩) (.inl hs) u).setCell (p := ⟨s0, 1, none⟩) (.inl hs) u').drew, fun g hg => hk.row g (row_set e1 (row_set e1 hg))⟩, ((hb.setCell (p := ⟨s0, 0, none⟩) hB u).setCell (p := ⟨s0, 1, none⟩) hB u').drew⟩
theorem ord_take {k : Nat} (h : Hp.Ord l) (hk : k ≤ l.length) : Hp.Ord (l.take k) := fun q hq q0 => by
  have hp := Hp.par_lt q0
  simp at hq
  rw [List.getElem_take, List.getElem_take]
  exact h q (by omega) q0
set_option maxRecDepth 100000 in
set_option maxHeartbeats 4000000 in
theorem take_any (hG : Good l) (h : HAt B w b mb most l) (hO : Hp.Ord l) (hB : B ≤ w.heap.size) (i : Nat) (x : Hp.It A) (hx : l[i]? = some x) :
    Calls Try.prog 39 #[.pointer (some ⟨b, 0, none⟩), .int .i64 i] w (fun e w' => e = .returned (.tuple #[.agg #[.int .u64 x.v, .int .i64 x.id], val x.x, .bool true]) ∧ (∃ L', (x :: L').Perm l ∧ HP B w' b mb most L') ∧ Below B w w' ∧ HKept b mb w w') := by
  have H := hid h
  have HG := hid (And.intro hG hO)
  have HX := hid hx
  have hi : i < l.length := (List.getElem?_eq_some_iff.1 hx).1
  obtain ⟨a, c, q0, q1, q2, qs⟩ := h.cells
  obtain ⟨g, rfl, i0, i1, i2⟩ := qs i hi
  have hxe : l[i] = x := (List.getElem?_eq_some_iff.1 hx).2
  rw [hxe] at i0 i1 i2
  obtain ⟨n, en⟩ : ∃ n, l.length = n := ⟨_, rfl⟩
  have EN := hid en
  rw [en] at q1 hi
  have hlt := h.lt
  have hgl : g < w.heap.size := World.block_lt_of_cell? w _ i0
  have e1 : wrap64 ((n : Int) - 1) = ((n - 1 : Nat) : Int) := by have := hG.len; unfold wrap64; omega
  clear h hG hO hx en qs hxe
  go_enter Try.func39, Try.ntmps39
  go_wp2_with fail
  rw [e1]
  obtain ⟨w1, ew1⟩ : ∃ w1, w1 = (w.alloc (.cells #[.int .u64 0, .int .i64 0] 71)).alloc (.cells #[.int .u64 x.v, .int .i64 x.id, val x.x] tI) := ⟨_, rfl⟩
  have hb1 : Below w.heap.size w w1 := by rw [ew1]; exact ((Below.refl _ w).alloc (Nat.le_refl _) _).alloc (by simp) _
  have hRx : Rec w1 (w.heap.size + 1) tI #[.int .u64 x.v, .int .i64 x.id, val x.x] := by
    rw [ew1]
    have := Rec.new (w.alloc (.cells #[.int .u64 0, .int .i64 0] 71)) tI #[.int .u64 x.v, .int .i64 x.id, val x.x]
    simpa using this
  have hRk : Rec w1 w.heap.size 71 #[.int .u64 0, .int .i64 0] := by
    rw [ew1]
    exact Rec.alloc (Rec.new w 71 #[.int .u64 0, .int .i64 0]) _
  rw [← ew1]
  have h1 := H.out.far hb1
  have hS1 : HSt B w1 b mb most l l w1 := ⟨h1, List.Perm.refl _, Below.refl _ _, HKept.refl _ _ _⟩
  obtain ⟨s0, es0⟩ : ∃ s0, s0 = w.heap.size := ⟨_, rfl⟩
  have ES := hid es0
  rw [← es0] at hRx hRk ⊢
  have hsw := swap_st HG.out.1 hS1 i (n - 1) (by rw [EN.out]; exact hi) (by rw [EN.out]; omega)
  refine hsw.mono ?_
  rintro _ w2 ⟨rfl, h2⟩
  have HB1 := hid hb1
  have HRX := hid hRx
  have HRK := hid hRk
  have H1 := hid h1
  have hnb : ¬ hF b mb w1 (s0 + 1) := by
    rintro (h | h | ⟨n', c', h⟩)
    · omega
    · have := H.out.mp.lt; omega
    · have h3 := q1
      rw [← below_cell hb1 (Nat.le_refl _) _ _ h3] at h3
      have h4 := below_cell hb1 (Nat.le_refl _) _ _ q1
      rw [h4] at h
      simp only [Option.some.injEq, Value.slice.injEq, Addr.mk.injEq] at h
      omega
  have hRx2 := Rec.kept hRx h2.kept.kept hnb
  have hnb0 : ¬ hF b mb w1 s0 := by
    rintro (h | h | ⟨n', c', h⟩)
    · omega
    · have := H.out.mp.lt; omega
    · have h4 := below_cell hb1 (Nat.le_refl _) _ _ q1
      rw [h4] at h
      simp only [Option.some.injEq, Value.slice.injEq, Addr.mk.injEq] at h
      omega
  have HRK2 := hid (Rec.kept hRk h2.kept.kept hnb0)
  have HNR := hid (show ∀ q, rowOf b w2 q → q ≠ s0 ∧ q ≠ s0 + 1 from fun q hq => by
    have h5 := h2.kept.row q hq
    exact ⟨fun e => hnb0 (.inr (.inr (e ▸ h5))), fun e => hnb (.inr (.inr (e ▸ h5)))⟩)
  have HS0 := hid (show ¬ b = s0 ∧ ¬ s0 = mb ∧ ¬ s0 + 1 = mb by have := H.out.mp.lt; omega)
  have HRX2 := hid hRx2
  clear hsw hS1 h1 ew1 hb1 hRx hRk q0 q1 q2 i0 i1 i2 hlt hgl es0 hnb hnb0
  obtain ⟨l2, el2⟩ : ∃ l2, l2 = Hp.swp l i (n - 1) (by rw [EN.out]; exact hi) (by rw [EN.out]; omega) := ⟨_, rfl⟩
  rw [← el2] at h2
  have hl2 : l2.length = n := by rw [el2, Hp.swp_length]; exact EN.out
  obtain ⟨a2, c2, hrec2, hown2⟩ := h2.at'.ex
  rw [hl2] at hrec2 hown2
  have r1 := Rec.cell hrec2 1
  have f1 := Rec.frozen hrec2 1
  simp at r1
  have hcap := own_cap hown2
  obtain ⟨k, ek⟩ : ∃ k, n - 1 = k := ⟨_, rfl⟩
  have hkc : k ≤ c2 := by omega
  have hkn : k < n := by omega
  have EK := hid ek
  rw [ek]
  have hx0 := Rec.cell hRx2 0
  have hx1 := Rec.cell hRx2 1
  have hx2 := Rec.cell hRx2 2
  simp at hx0 hx1 hx2
  have hbs : ¬ b = s0 + 1 := by have := HB1.out.size; have := H.out.lt; have := ES.out; omega
  have H2 := hid h2
  have EL2 := hid el2
  have HREC2 := hid hrec2
  have HOWN2 := hid hown2
  clear hRx2 h2 el2 hrec2 hown2 ek e1
  go_wp2_with fail
  obtain ⟨w3, ew3⟩ : ∃ w3, w3 = w2.setCell ⟨b, 1, none⟩ (.slice a2 k c2) := ⟨_, rfl⟩
  have hbm : b ≠ mb := rec_not_map HREC2.out H2.out.at'.mp
  have hR3 : Rec w3 b tH #[.int .i64 most, .slice a2 k c2, .map (some mb)] := by
    have := Rec.set HREC2.out 1 (.slice a2 k c2)
    rw [ew3]; simpa using this
  have hO3 : w3.ownsRow B tI 3 (.slice a2 k c2) k (tab itV (l2.take k)) := by
    have h5 := own_setB HOWN2.out HREC2.out (by decide) 1 (.slice a2 k c2)
    rw [← ew3] at h5
    have h6 := own_cut h5 (m := k) (by omega)
    rw [tab_take itV_length] at h6
    exact h6
  have hM3 : MapI Try.prog 3 w3 mb (idx l2) l2.length := H2.out.at'.mp.block (by rw [ew3]; exact heap_setCell_other _ _ _ _ (fun e => hbm e.symm))
  have hX3 : Rec w3 (s0 + 1) tI #[.int .u64 x.v, .int .i64 x.id, val x.x] := by rw [ew3]; exact Rec.set_other HRX2.out (p := ⟨b, 1, none⟩) hbs _
  have EW3 := hid ew3
  rw [← ew3]
  clear ew3 r1 f1 hx0 hx1 hx2
  have r1 := Rec.cell hR3 1
  have r2 := Rec.cell hR3 2
  have hx0 := Rec.cell hX3 0
  have hx1 := Rec.cell hX3 1
  have hx2 := Rec.cell hX3 2
  simp at r1 r2 hx0 hx1 hx2
  have HR3 := hid hR3
  have HO3 := hid hO3
  have HM3 := hid hM3
  have HX3 := hid hX3
  clear hR3 hO3 hM3 hX3
  refine wp_region_last (C := fun w' => ∃ x : Past, w' = w3.past x) 7 [] (by kernel_rfl) (by kernel_rfl) (by kernel_rfl) rfl (by kernel_rfl) (.inl rfl) (past_of ⟨rfl, rfl, rfl, Nat.le_refl _, fun _ _ => rfl⟩) ?_
  simp only [List.take_succ_cons, List.take_zero]
  repeat (go_big_quiet_step ((fail)))
  refine wpQuiet_nil ?_
  rintro _ ⟨xq, rfl⟩
  have hb4 := w3.below_past xq
  obtain ⟨w4, ew4⟩ : ∃ w4, w4 = w3.past xq := ⟨_, rfl⟩
  rw [← ew4] at hb4 ⊢
  clear ew4 xq
  have hR4 := HR3.out.below hb4 (Nat.le_refl _)
  have hO4 := own_below HO3.out hb4 (Nat.le_refl _)
  have hM4 := HM3.out.below hb4 HM3.out.lt
  have hX4 := HX3.out.below hb4 (Nat.le_refl _)
  have hxI : I64 x.id := HG.out.1.i64 x (List.mem_of_getElem? HX.out)
  obtain ⟨w5, r5, m5, g5, -⟩ := hM4.drop (m := 61) (x := x.id) (by kernel_rfl) (by kernel_rfl) hxI 0
  have HB4 := hid hb4
  have HR4 := hid hR4
  have HO4 := hid hO4
  have HM4 := hid hM4
  have HX4 := hid hX4
  have M5 := hid m5
  have G5 := hid g5
  clear hb4 hR4 hO4 hM4 hX4 m5 g5 r1 r2 hx0 hx1 hx2
  refine wpOp_step rfl (fun K hK => ?_)
  go_simp
  refine hK _ _ ?_
  clear hK K
  have hn2 : (l2.map (·.id)).Nodup := (HG.out.1.perm H2.out.perm).nd
  have hlk : l2.length = k + 1 := by rw [hl2]; have := EK.out; omega
  have hxe : l[i]'(by rw [EN.out]; exact hi) = x := (List.getElem?_eq_some_iff.1 HX.out).2
  have hl2k : l2[k]? = some x := by
    rw [List.getElem?_eq_getElem (by omega)]
    have h5 := Hp.swp_get l i (n - 1) (by rw [EN.out]; exact hi) (by rw [EN.out]; omega) (n - 1) (by rw [EN.out]; omega)
    rw [if_pos rfl, hxe] at h5
    have h6 := EK.out
    subst h6
    simp only [EL2.out]
    rw [h5]
  obtain ⟨l3, el3⟩ : ∃ l3, l3 = l2.take k := ⟨_, rfl⟩
  have hl3 : l3.length = k := by rw [el3, List.length_take]; omega
  have hA5 : HAt B w5 b mb most l3 := by
    refine ⟨H.out.big, H.out.mbig, ⟨a2, c2, ?_, ?_⟩, ?_⟩
    · rw [hl3]
      exact (G5.out.block b HR4.out.lt (fun e => hbm (by injection e))).trans HR4.out
    · rw [hl3, el3]
      exact HO4.out.kept G5.out (.inr fun e => own_not_map HO4.out HM4.out e.symm)
    · have h5 := M5.out
      have h6 : (idx l2 x.id).isSome = true := (idx_some_iff hn2).2 (List.mem_map.2 ⟨x, List.mem_of_getElem? hl2k, rfl⟩)
      rw [if_pos h6, hlk] at h5
      rw [hl3]
      exact h5.ext (fun z => by rw [el3]; exact idx_take hn2 hlk hl2k z)
  have hperm : (x :: l3).Perm l := by
    have h5 : (l3 ++ [x]).Perm l := by
      have h6 : l3 ++ [x] = l2 := by
        rw [el3]
        have h7 := List.take_append_getElem (l := l2) (i := k) (by omega)
        rw [(List.getElem?_eq_some_iff.1 hl2k).2] at h7
        rw [h7, List.take_of_length_le (by omega)]
      rw [h6]
      exact H2.out.perm
    exact (List.perm_append_singleton _ _).symm.trans h5
  have hG3 : Good l3 := by
    have h5 : Good (x :: l3) := HG.out.1.perm hperm
    exact ⟨(List.nodup_cons.1 h5.nd).2, fun y hy => h5.i64 y (List.mem_cons_of_mem _ hy), by have := h5.len; simp at this; omega⟩
  have hb5 : Below B w w5 := by
    have b1 := (HB1.out.mono hB).trans H2.out.bel
    have b2 : Below B w w3 := by rw [EW3.out]; exact b1.setCell (p := ⟨b, 1, none⟩) H.out.big _
    have b3 := b2.trans (HB4.out.mono (by have := b2.size; omega))
    exact b3.grown G5.out (by have := b3.size; omega) (fun j e => by injection e with e; have := H.out.mbig; omega)
  have hk5 : HKept b mb w w5 := by
    have k1 : HKept b mb w w1 := HKept.of_below HB1.out H.out.lt
    have k3 : HKept b mb w2 w3 := by
      refine ⟨by rw [EW3.out]; exact (Kept.refl _ _).setCell (p := ⟨b, 1, none⟩) (.inr (.inl rfl)) _, fun q hq => ?_⟩
      obtain ⟨n8, c8, h8⟩ := hq
      rw [Rec.cell HR3.out 1] at h8
      simp at h8
      exact ⟨n, c2, by rw [Rec.cell HREC2.out 1, h8.1]; rfl⟩
    have k4 : HKept b mb w3 w4 := HKept.of_below HB4.out HR3.out.lt
    exact (((k1.trans H2.out.kept).trans k3).trans k4).trans (HKept.map G5.out HR4.out.lt hbm)
  have hK5 : Rec w5 s0 71 #[.int .u64 0, .int .i64 0] := by
    have h5 : Rec w3 s0 71 #[.int .u64 0, .int .i64 0] := by rw [EW3.out]; exact Rec.set_other HRK2.out (p := ⟨b, 1, none⟩) HS0.out.1 _
    have h6 := h5.below HB4.out (Nat.le_refl _)
    exact (G5.out.block s0 h6.lt (fun e => HS0.out.2.1 (by injection e))).trans h6
  have hX5 : Rec w5 (s0 + 1) tI #[.int .u64 x.v, .int .i64 x.id, val x.x] := (G5.out.block (s0 + 1) HX4.out.lt (fun e => HS0.out.2.2 (by injection e))).trans HX4.out
  have hnr5 : ¬ hF b mb w5 s0 ∧ ¬ hF b mb w5 (s0 + 1) := by
    have key : ∀ q, rowOf b w5 q → q ≠ s0 ∧ q ≠ s0 + 1 := fun q hq => by
      have h6 := row_same (G5.out.block b HR4.out.lt (fun e => hbm (by injection e))) hq
      have h7 := row_same (HB4.out.block b HR3.out.lt) h6
      obtain ⟨n8, c8, h8⟩ := h7
      rw [Rec.cell HR3.out 1] at h8
      simp at h8
      exact HNR.out q ⟨n, c2, by rw [Rec.cell HREC2.out 1, h8.1]; rfl⟩
    have h9 := HS0.out
    refine ⟨?_, ?_⟩
    · rintro (h | h | h)
      · exact h9.1 h.symm
      · exact h9.2.1 h
      · exact (key _ h).1 rfl
    · rintro (h | h | h)
      · exact hbs h.symm
      · exact h9.2.2 h
      · exact (key _ h).2 rfl
  have HNR5 := hid hnr5
  clear hnr5
  have HA5 := hid hA5
  have HP5 := hid hperm
  have HG3 := hid hG3
  have HB5 := hid hb5
  have HK5 := hid hk5
  have HKey5 := hid hK5
  have HX5 := hid hX5
  have HL3 := hid hl3
  have HEL := hid el3
  clear hA5 hperm hG3 hb5 hk5 hK5 hX5 hn2 hlk hl2k hl3 el3 hxe r5
  by_cases hik : i < k
  · have hik' : (i : Int) < k := by omega
    have HIK := hid hik
    clear hik
    go_wp2_with fail
    have hS5 : HSt B w5 b mb most l3 l3 w5 := ⟨HA5.out, List.Perm.refl _, Below.refl _ _, HKept.refl _ _ _⟩
    have hD : Hp.Dn l3 i := by
      have h6 := EK.out
      subst h6
      rw [HEL.out, EL2.out]
      exact dn_cut HG.out.2 (by rw [EN.out]; omega) HIK.out
    refine (down_any HG3.out hS5 (by have := HA5.out.big; have := HA5.out.lt; omega) i hD (by have := HG3.out.len; have := HL3.out; have := HIK.out; omega)).mono ?_
    rintro _ w6 ⟨rfl, l6, hu6, -, h6⟩
    have H6 := hid (And.intro hu6 h6)
    clear hS5 hD hu6 h6
    go_wp2_with fail
    have hS6 : HSt B w6 b mb most l6 l6 w6 := ⟨H6.out.2.at', List.Perm.refl _, Below.refl _ _, HKept.refl _ _ _⟩
    refine (up_any (HG3.out.perm H6.out.2.perm) hS6 (by have := H6.out.2.at'.big; have := H6.out.2.at'.lt; omega) i (by have := H6.out.2.perm.length_eq; have := HL3.out; have := HIK.out; omega) H6.out.1).mono ?_
    rintro _ w7 ⟨rfl, l7, ho7, h7⟩
    have H7 := hid (show Hp.Ord l7 ∧ HSt B w5 b mb most l3 l7 w7 from ⟨ho7, h7.at', h7.perm.trans H6.out.2.perm, H6.out.2.bel.trans h7.bel, H6.out.2.kept.trans h7.kept⟩)
    clear hS6 ho7 h7
    go_wp2_with fail
    have hK7 := Rec.kept HKey5.out H7.out.2.kept.kept HNR5.out.1
    have hX7 := Rec.kept HX5.out H7.out.2.kept.kept HNR5.out.2
    have hx0 := Rec.cell hX7 0
    have hx1 := Rec.cell hX7 1
    have hx2 := Rec.cell hX7 2
    have hk0 := Rec.cell hK7 0
    have hk1 := Rec.cell hK7 1
    have hf0 := Rec.frozen hK7 0
    have hf1 := Rec.frozen hK7 1
    have hlt7 := Rec.lt hX7
    have hlt70 := Rec.lt hK7
    simp at hx0 hx1 hx2 hk0 hk1
    have HK7 := hid hK7
    clear hK7 hX7
    go_region
    all_goals (
      go_wp2_with fail
      refine bodyPost_ret (v := .tuple #[.agg #[.int .u64 x.v, .int .i64 x.id], val x.x, .bool true]) (by simp [results, Try.results39, go_sem, hx0, hx1, hx2, hk0, hk1, hf0, hf1, hlt7, hlt70]) rfl ?_
      have hn7 := hF_later H7.out.2.kept HNR5.out.1 HKey5.out.lt
      obtain ⟨z1, z2, z3⟩ := take_end H7.out.2.at' hn7 (HK5.out.trans H7.out.2.kept) (by have := ES.out; omega) (HB5.out.trans H7.out.2.bel) (by have := ES.out; omega) (.int .u64 x.v) (.int .i64 x.id)
      exact ⟨rfl, ⟨l3, HP5.out, ⟨_, z1, H7.out.1, H7.out.2.perm⟩, HG3.out⟩, z3, z2⟩)
  · have hik' : ¬ (i : Int) < k := by omega
    have hie : i = k := by have := EK.out; omega
    have HIE := hid hie
    clear hik hie
    go_wp2_with fail
    have h7o : Hp.Ord l3 := by
      have h6 := EK.out
      have h8 := HIE.out
      rw [HEL.out, EL2.out]
      subst h8
      have e9 : Hp.swp l i (n - 1) (by rw [EN.out]; exact hi) (by rw [EN.out]; omega) = l := by
        subst h6
        exact Hp.swp_self l (n - 1) (by rw [EN.out]; omega)
      rw [e9]
      exact ord_take HG.out.2 (by rw [EN.out]; omega)
    have H7 := hid (show Hp.Ord l3 ∧ HSt B w5 b mb most l3 l3 w5 from ⟨h7o, HA5.out, List.Perm.refl _, Below.refl _ _, HKept.refl _ _ _⟩)
    clear h7o
    have hK7 := Rec.kept HKey5.out H7.out.2.kept.kept HNR5.out.1
    have hX7 := Rec.kept HX5.out H7.out.2.kept.kept HNR5.out.2
    have hx0 := Rec.cell hX7 0
    have hx1 := Rec.cell hX7 1
    have hx2 := Rec.cell hX7 2
    have hk0 := Rec.cell hK7 0
    have hk1 := Rec.cell hK7 1
    have hf0 := Rec.frozen hK7 0
    have hf1 := Rec.frozen hK7 1
    have hlt7 := Rec.lt hX7
    have hlt70 := Rec.lt hK7
    simp at hx0 hx1 hx2 hk0 hk1
    have HK7 := hid hK7
    clear hK7 hX7
    go_region
    all_goals (
      go_wp2_with fail
      refine bodyPost_ret (v := .tuple #[.agg #[.int .u64 x.v, .int .i64 x.id], val x.x, .bool true]) (by simp [results, Try.results39, go_sem, hx0, hx1, hx2, hk0, hk1, hf0, hf1, hlt7, hlt70]) rfl ?_
      have hn7 := hF_later H7.out.2.kept HNR5.out.1 HKey5.out.lt
      obtain ⟨z1, z2, z3⟩ := take_end H7.out.2.at' hn7 (HK5.out.trans H7.out.2.kept) (by have := ES.out; omega) (HB5.out.trans H7.out.2.bel) (by have := ES.out; omega) (.int .u64 x.v) (.int .i64 x.id)
      exact ⟨rfl, ⟨l3, HP5.out, ⟨_, z1, H7.out.1, H7.out.2.perm⟩, HG3.out⟩, z3, z2⟩)
end

end Go.Proofs.Ytolhbcgmlaodbaa.HpI
namespace Go.Proofs.Ytolhbcgmlaodbaa.HpI
open Go Go.RowKit Go.Proofs.Ytolhbcgmlaodbaa
section
variable {B : Nat} {w w' : World} {b mb : Nat} {most : Int} {l L : List (Hp.It A)}
/-- The one that is due first. -/
def Least (L : List (Hp.It A)) (x : Hp.It A) : Prop := x ∈ L ∧ ∀ y ∈ L, ¬ Hp.lt y x
theorem Least.perm {L' : List (Hp.It A)} {x : Hp.It A} (h : Least L x) (p : L.Perm L') : Least L' x := ⟨p.mem_iff.1 h.1, fun y hy => h.2 y (p.mem_iff.2 hy)⟩
theorem least_root (h : Hp.Ord l) (h0 : 0 < l.length) : Least l l[0] := ⟨List.getElem_mem h0, fun y hy => by
  obtain ⟨k, hk, rfl⟩ := List.getElem_of_mem hy
  exact h.root k hk⟩
abbrev kv0 : Value := .tuple #[.agg #[.int .u64 0, .int .i64 0], zval, .bool false]
abbrev kvOf (x : Hp.It A) : Value := .tuple #[.agg #[.int .u64 x.v, .int .i64 x.id], val x.x, .bool true]
set_option maxRecDepth 100000 in
set_option maxHeartbeats 4000000 in
theorem Peek_none (h : HP B w b mb most []) : Calls Try.prog 33 #[.pointer (some ⟨b, 0, none⟩)] w (Gives kv0 w) := by
  have hb1 : Below w.heap.size w (w.alloc (.cells #[.int .u64 0, .int .i64 0] 71)) := (Below.refl _ w).alloc (Nat.le_refl _) _
  have HL := hid (Len_any (h.far hb1))
  clear h
  go_enter Try.func33, Try.ntmps33
  go_wp2_with (go_at_call 38; refine HL.out.mono ?_; rintro _ _ ⟨rfl, rfl⟩)
  refine bodyPost_ret (v := kv0) (by simp [results, Try.results33, go_sem]) rfl ?_
  refine Gives.mk rfl ?_
  (repeat (first | exact Below.refl _ _ | refine RowKit.Below.past ?_ _ | refine RowKit.Below.alloc' ?_ _ | refine RowKit.Below.drew' ?_ | refine RowKit.Below.drewN' ?_ _ | refine RowKit.Below.setCell' ?_ (by simp [go_sem]) _))
set_option maxRecDepth 100000 in
set_option maxHeartbeats 4000000 in
theorem Peek_some (h : HP B w b mb most L) (h0 : 0 < L.length) : Calls Try.prog 33 #[.pointer (some ⟨b, 0, none⟩)] w (fun e w' => ∃ x, Least L x ∧ e = .returned (kvOf x) ∧ Below w.heap.size w w') := by
  obtain ⟨w1, ew1⟩ : ∃ w1, w1 = w.alloc (.cells #[.int .u64 0, .int .i64 0] 71) := ⟨_, rfl⟩
  have hb1 : Below w.heap.size w w1 := by rw [ew1]; exact (Below.refl _ w).alloc (Nat.le_refl _) _
  have hR1 : Rec w1 w.heap.size 71 #[.int .u64 0, .int .i64 0] := by rw [ew1]; exact Rec.new w _ _
  have h1 := h.far hb1
  have HL := hid (Len_any h1)
  obtain ⟨l, a1, a2, a3⟩ := h.ex
  have hlen : 0 < l.length := by rw [a3.length_eq]; exact h0
  have HX := hid ((least_root a2 hlen).perm a3)
  obtain ⟨a, c, q0, q1, q2, qs⟩ := a1.cells
  obtain ⟨g, rfl, i0, i1, i2⟩ := qs 0 hlen
  obtain ⟨x, ex⟩ : ∃ x, l[0] = x := ⟨_, rfl⟩
  rw [ex] at i0 i1 i2 HX
  simp at i0 i1 i2
  have hgl : g < w.heap.size := World.block_lt_of_cell? w _ i0
  have hbl := a1.lt
  replace q1 := below_cell hb1 (Nat.le_refl _) _ _ q1
  replace i0 := below_cell hb1 (Nat.le_refl _) _ _ i0
  replace i1 := below_cell hb1 (Nat.le_refl _) _ _ i1
  replace i2 := below_cell hb1 (Nat.le_refl _) _ _ i2
  obtain ⟨n, en⟩ : ∃ n, l.length = n := ⟨_, rfl⟩
  have hn : L.length = n := by rw [← en, a3.length_eq]
  rw [hn] at HL
  rw [en] at q1 hlen
  obtain ⟨s0, es0⟩ : ∃ s0, w.heap.size = s0 := ⟨_, rfl⟩
  have ES := hid es0
  have HB1 := hid hb1
  have EW1 := hid ew1
  rw [es0] at hR1
  have k0 := Rec.cell hR1 0
  have k1 := Rec.cell hR1 1
  have f0 := Rec.frozen hR1 0
  have f1 := Rec.frozen hR1 1
  have hls := Rec.lt hR1
  simp at k0 k1
  have hlen' : (0 : Int) < n := by omega
  have hbs : ¬ b = s0 := by omega
  have hgs : ¬ g = s0 := by omega
  have hbl1 : b < w1.heap.size := by omega
  have hgl1 : g < w1.heap.size := by omega
  have hd : ((n : Int) == 0) = false := by simp; omega
  clear h h1 a1 a2 a3 qs ex en hn q0 q2 es0 hb1 ew1 h0 hR1 hgl hbl
  go_enter Try.func33, Try.ntmps33
  go_wp2_with (go_at_call 38; rw [← EW1.out]; refine HL.out.mono ?_; rintro _ w9 ⟨rfl, h9⟩; rw [h9]; clear h9 w9)
  rw [ES.out]
  go_region
  all_goals (
    go_wp2_with fail
    refine bodyPost_ret (v := kvOf x) (by simp [results, Try.results33, go_sem, k0, k1, f0, f1, hls]) rfl ?_
    refine ⟨x, HX.out, rfl, ?_⟩
    exact ((HB1.out.setCell (p := ⟨s0, 0, none⟩) (Nat.le_of_eq ES.out) _).setCell (p := ⟨s0, 1, none⟩) (Nat.le_of_eq ES.out) _).drew)
theorem new_out (h : HP B w b mb most L) (hb : Below w.heap.size w w') {s0 : Nat} (hs : w.heap.size ≤ s0) : ¬ hF b mb w' s0 := by
  obtain ⟨l, a1, -⟩ := h.ex
  have h1 := a1.lt
  have h2 := a1.mp.lt
  rintro (h | h | h)
  · omega
  · omega
  · obtain ⟨a, c, q, r⟩ := a1.ex
    have h3 := row_same (hb.block b h1) h
    obtain ⟨n', c', h3⟩ := h3
    rw [Rec.cell q 1] at h3
    simp at h3
    obtain ⟨rfl, -, -⟩ := h3
    have := (r.lt s0 rfl).2
    omega
end

section
variable {B : Nat} {w w' : World} {b mb : Nat} {most : Int} {l L : List (Hp.It A)}
/-- The answer's box is filled, in the order of the text. -/
theorem box_end {s0 : Nat} (h : HP B w' b mb most L) (hn : ¬ hF b mb w' s0) (hk : HKept b mb w w') (hs : w.heap.size ≤ s0) (hb : Below B w w') (hB : B ≤ s0) (u u' : Value) :
    HP B ((w'.setCell ⟨s0, 0, none⟩ u).setCell ⟨s0, 1, none⟩ u') b mb most L ∧ HKept b mb w ((w'.setCell ⟨s0, 0, none⟩ u).setCell ⟨s0, 1, none⟩ u') ∧ Below B w ((w'.setCell ⟨s0, 0, none⟩ u).setCell ⟨s0, 1, none⟩ u') := by
  have e1 : b ≠ s0 := fun e => hn (.inl e.symm)
  have hn2 : ¬ hF b mb (w'.setCell ⟨s0, 0, none⟩ u) s0 := by
    rintro (h | h | h)
    · exact hn (.inl h)
    · exact hn (.inr (.inl h))
    · exact hn (.inr (.inr (row_set e1 h)))
  obtain ⟨l, a1, a2, a3⟩ := h.ex
  exact ⟨⟨⟨l, (a1.outside hn 0 u).outside hn2 1 u', a2, a3⟩, h.good⟩, ⟨(hk.kept.setCell (p := ⟨s0, 0, none⟩) (.inl hs) u).setCell (p := ⟨s0, 1, none⟩) (.inl hs) u', fun g hg => hk.row g (row_set e1 (row_set e1 hg))⟩, (hb.setCell (p := ⟨s0, 0, none⟩) hB u).setCell (p := ⟨s0, 1, none⟩) hB u'⟩
set_option maxRecDepth 100000 in
set_option maxHeartbeats 4000000 in
theorem Pop_none (h : HP B w b mb most []) : Calls Try.prog 34 #[.pointer (some ⟨b, 0, none⟩)] w (Gives kv0 w) := by
  have hb1 : Below w.heap.size w (w.alloc (.cells #[.int .u64 0, .int .i64 0] 71)) := (Below.refl _ w).alloc (Nat.le_refl _) _
  have HL := hid (Len_any (h.far hb1))
  have HP := hid (Peek_none (h.far hb1))
  clear h
  go_enter Try.func34, Try.ntmps34
  go_wp2_with (first | (go_at_call 38; refine HL.out.mono ?_; rintro _ _ ⟨rfl, rfl⟩) | (go_at_call 33; refine HP.out.mono ?_; rintro _ _ ⟨rfl, x9, rfl⟩))
  refine bodyPost_ret (v := kv0) (by simp [results, Try.results34, go_sem]) rfl ?_
  refine Gives.mk rfl ?_
  (repeat (first | exact Below.refl _ _ | refine RowKit.Below.past ?_ _ | refine RowKit.Below.alloc' ?_ _ | refine RowKit.Below.drew' ?_ | refine RowKit.Below.drewN' ?_ _ | refine RowKit.Below.setCell' ?_ (by simp [go_sem]) _))
set_option maxRecDepth 100000 in
set_option maxHeartbeats 4000000 in
theorem Pop_some (h : HP B w b mb most L) (h0 : 0 < L.length) (hB : B ≤ w.heap.size) : Calls Try.prog 34 #[.pointer (some ⟨b, 0, none⟩)] w (fun e w' => ∃ x, e = .returned (kvOf x) ∧ Least L x ∧ (∃ L', (x :: L').Perm L ∧ HP B w' b mb most L') ∧ Below B w w' ∧ HKept b mb w w') := by
  obtain ⟨w1, ew1⟩ : ∃ w1, w1 = w.alloc (.cells #[.int .u64 0, .int .i64 0] 71) := ⟨_, rfl⟩
  have hb1 : Below w.heap.size w w1 := by rw [ew1]; exact (Below.refl _ w).alloc (Nat.le_refl _) _
  have hR1 : Rec w1 w.heap.size 71 #[.int .u64 0, .int .i64 0] := by rw [ew1]; exact Rec.new w _ _
  have h1 := h.far hb1
  have HL := hid (Len_any h1)
  have HNO := hid (new_out h hb1 (Nat.le_refl _))
  obtain ⟨l, a1, a2, a3⟩ := h1.ex
  have hlen : 0 < l.length := by rw [a3.length_eq]; exact h0
  have HX := hid ((least_root a2 hlen).perm a3)
  obtain ⟨x, ex⟩ : ∃ x, l[0] = x := ⟨_, rfl⟩
  rw [ex] at HX
  have HT := hid (take_any (h.good.perm a3) a1 a2 (by have := hb1.size; omega) 0 x (by rw [← ex]; exact List.getElem?_eq_getElem hlen))
  obtain ⟨n, en⟩ : ∃ n, L.length = n := ⟨_, rfl⟩
  rw [en] at HL h0
  have hd : ((n : Int) == 0) = false := by simp; omega
  have HA3 := hid a3
  have H := hid h
  have HB1 := hid hb1
  have EW1 := hid ew1
  have HR1 := hid hR1
  have HB := hid hB
  clear h h1 a1 a2 a3 ex en hb1 ew1 h0 hR1 hlen hB
  go_enter Try.func34, Try.ntmps34
  go_wp2_with (go_at_call 38; rw [← EW1.out]; refine HL.out.mono ?_; rintro _ w9 ⟨rfl, h9⟩; rw [h9]; clear h9 w9)
  have ht := HT.out
  clear HT
  refine ht.mono ?_
  rintro _ w2 ⟨rfl, hL2, hb2, hk2⟩
  have hR2 := HR1.out.kept hk2.kept HNO.out
  have hn2 := hF_later hk2 HNO.out HR1.out.lt
  obtain ⟨s0, es0⟩ : ∃ s0, w.heap.size = s0 := ⟨_, rfl⟩
  have ES := hid es0
  rw [es0] at hR2 hn2 ⊢
  have k0 := Rec.cell hR2 0
  have k1 := Rec.cell hR2 1
  have f0 := Rec.frozen hR2 0
  have f1 := Rec.frozen hR2 1
  have hls := Rec.lt hR2
  simp at k0 k1
  have K2 := hid hk2
  have L2 := hid hL2
  have B2 := hid hb2
  have N2 := hid hn2
  clear hk2 hL2 hb2 hn2 hR2 es0 ht
  go_wp2_with fail
  refine bodyPost_ret (v := kvOf x) (by simp [results, Try.results34, go_sem, k0, k1, f0, f1, hls]) rfl ?_
  obtain ⟨L', p1, p2⟩ := L2.out
  obtain ⟨z1, z2, z3⟩ := box_end p2 N2.out ((HKept.of_below HB1.out H.out.lt).trans K2.out) (Nat.le_of_eq ES.out) ((HB1.out.mono HB.out).trans B2.out) (by have := ES.out; have := HB.out; omega) (.int .u64 x.v) (.int .i64 x.id)
  exact ⟨x, rfl, HX.out, ⟨L', p1.trans HA3.out, z1⟩, z3, z2⟩
end

end Go.Proofs.Ytolhbcgmlaodbaa.HpI
namespace Go.Proofs.Ytolhbcgmlaodbaa.HpI
open Go Go.RowKit Go.Proofs.Ytolhbcgmlaodbaa
section
variable {B : Nat} {w w' : World} {b mb : Nat} {most : Int} {l L : List (Hp.It A)}
theorem HP.cells (h : HP B w b mb most L) : ∃ a c, w.cell? ⟨b, 0, none⟩ = some (.int .i64 most) ∧ w.cell? ⟨b, 1, none⟩ = some (.slice a L.length c) ∧ w.cell? ⟨b, 2, none⟩ = some (.map (some mb)) := by
  obtain ⟨l, a1, a2, a3⟩ := h.ex
  obtain ⟨a, c, q0, q1, q2, -⟩ := a1.cells
  exact ⟨a, c, q0, by rw [← a3.length_eq]; exact q1, q2⟩
theorem HP.look (h : HP B w b mb most L) {z : Int} (hz : I64 z) : ∃ l, HAt B w b mb most l ∧ Hp.Ord l ∧ l.Perm L ∧ (Instr.lookup 61 (.map (some mb)) (.int .i64 z) true).run Try.prog w = .ok (.tuple #[.int .i64 ((idx l z).getD 0), .bool (idx l z).isSome]) w := by
  obtain ⟨l, a1, a2, a3⟩ := h.ex
  exact ⟨l, a1, a2, a3, a1.mp.look (by kernel_rfl) (by kernel_rfl) (by go_simp) hz⟩
theorem idx_none_of {z : Int} (h : ¬ z ∈ l.map (·.id)) : idx l z = none := idx_none fun x hx e => h (List.mem_map.2 ⟨x, hx, e⟩)
theorem idx_some_of {x : Hp.It A} (hnd : (l.map (·.id)).Nodup) (hx : x ∈ l) : ∃ i : Nat, idx l x.id = some (i : Int) ∧ l[i]? = some x := by
  obtain ⟨i, hi, rfl⟩ := List.getElem_of_mem hx
  exact ⟨i, idx_at hnd hi, List.getElem?_eq_getElem hi⟩
end

end Go.Proofs.Ytolhbcgmlaodbaa.HpI
namespace Go.Proofs.Ytolhbcgmlaodbaa.HpI
open Go Go.RowKit Go.Proofs.Ytolhbcgmlaodbaa
section
variable {B : Nat} {w w' : World} {b mb : Nat} {most : Int} {l L : List (Hp.It A)}
theorem up_of_ord (h : Hp.Ord l) (i : Nat) : Hp.Up l i := ⟨fun k _ => h k, fun k hk k0 hp i0 => by
  have h1 := h k hk k0
  simp only [hp] at h1
  have := Hp.par_lt k0
  exact Hp.nlt_trans (h i (by omega) i0) h1⟩
theorem dn_put (h : Hp.Ord l) (i : Nat) (y : Hp.It A) : Hp.Dn (l.set i y) i := by
  refine ⟨fun k hk hkp hkl k0 => ?_, fun k hkl k0 hp i0 => ?_⟩
  · have := hkp k0
    have hp := Hp.par_lt k0
    simp at hkl
    rw [List.getElem_set_ne (by omega), List.getElem_set_ne (by omega)]
    exact h k hkl k0
  · have h1 := Hp.par_lt k0
    have h2 := Hp.par_lt i0
    simp at hkl
    rw [List.getElem_set_ne (by omega), List.getElem_set_ne (by omega)]
    exact (up_of_ord h i).bel k hkl k0 hp i0
theorem erase_perm {α : Type} : ∀ (l : List α) (i : Nat) (h : i < l.length), (l[i] :: l.eraseIdx i).Perm l
  | x :: l, 0, _ => List.Perm.refl _
  | x :: l, i + 1, h => by
    simp only [List.getElem_cons_succ, List.eraseIdx_cons_succ]
    exact (List.Perm.swap _ _ _).trans (List.Perm.cons _ (erase_perm l i (by simpa using h)))
theorem map_set_id {i : Nat} {x : Hp.It A} (hx : l[i]? = some x) {y : Hp.It A} (hy : y.id = x.id) : (l.set i y).map (·.id) = l.map (·.id) := by
  rw [List.map_set, hy]
  obtain ⟨h1, h2⟩ := List.getElem?_eq_some_iff.1 hx
  apply List.ext_getElem?
  intro k
  rw [List.getElem?_set]
  split
  · rename_i e
    subst e
    simp [h1, h2]
  · rfl
theorem idx_map (h : l.map (·.id) = L.map (·.id)) (z : Int) : idx l z = idx L z := by
  have e : ∀ M : List (Hp.It A), idx M z = ((M.map (·.id)).findIdx? (fun y => y == z)).map fun k => (k : Int) := fun M => by
    unfold idx
    rw [List.findIdx?_map]
    rfl
  rw [e, e, h]
theorem set_perm {i : Nat} {x y : Hp.It A} {L' : List (Hp.It A)} (hx : l[i]? = some x) (hp : l.Perm (x :: L')) : (l.set i y).Perm (y :: L') := by
  obtain ⟨h1, h2⟩ := List.getElem?_eq_some_iff.1 hx
  have e1 : l.Perm (x :: l.eraseIdx i) := by rw [← h2]; exact (erase_perm l i h1).symm
  have e2 : (l.set i y).Perm (y :: l.eraseIdx i) := by
    have h3 := (erase_perm (l.set i y) i (by simpa using h1)).symm
    rw [List.getElem_set_self, List.eraseIdx_set_eq] at h3
    exact h3
  exact e2.trans (List.Perm.cons _ (List.Perm.cons_inv (e1.symm.trans hp)))
/-- What New takes for the most. -/
def mostH (most : Int) : Int := if most < 0 then 0 else if 4096 < most then 4096 else most
def NewPost (B : Nat) (most : Int) (w : World) (e : Ending) (w' : World) : Prop := ∃ b mb, e = .returned (.pointer (some ⟨b, 0, none⟩)) ∧ HP B w' b mb (mostH most) [] ∧ Below w.heap.size w w' ∧ w.heap.size ≤ b ∧ w.heap.size ≤ mb
set_option maxRecDepth 100000 in
set_option maxHeartbeats 4000000 in
theorem New_any (most : Int) (w : World) (hB : B ≤ w.heap.size) :
    Calls Try.prog 19 #[.int .i64 most] w (NewPost B most w) := by
  obtain ⟨m, hm⟩ : ∃ m, mostH most = m := ⟨_, rfl⟩
  have HM := hid hm
  have key : ∀ W : World, W = (w.alloc (.map #[] 0)).alloc (.cells #[.int .i64 m, .slice none 0 0, .map (some w.heap.size)] tH) → HP B W (w.heap.size + 1) w.heap.size m [] ∧ Below w.heap.size w W := by
    rintro _ rfl
    refine ⟨⟨⟨[], ⟨by omega, hB, ⟨none, 0, ?_, rfl, .inl ⟨rfl, rfl⟩⟩, ?_⟩, fun k hk => by simp at hk, List.Perm.refl _⟩, ⟨by simp, by simp, by simp⟩⟩, ((Below.refl _ w).alloc (Nat.le_refl _) _).alloc (by simp) _⟩
    · have := Rec.new (w.alloc (.map #[] 0)) tH #[.int .i64 m, .slice none 0 0, .map (some w.heap.size)]
      simpa using this
    · have := (MapI.made (P := Try.prog) (t := 3) w).below ((Below.refl _ _).alloc (Nat.le_refl _) (.cells #[.int .i64 m, .slice none 0 0, .map (some w.heap.size)] tH)) (by simp)
      exact this.ext fun z => rfl
  have K := hid key
  have hmm := @run_makeMap Try.prog
  unfold mostH at hm
  clear key
  by_cases h1 : most < 0
  · obtain rfl : m = 0 := by omega
    clear hm
    go_enter Try.func19, Try.ntmps19
    go_wp2
    go_ret
    exact ⟨_, _, rfl, by rw [HM.out]; exact (K.out _ rfl).1, (K.out _ rfl).2, by omega, by omega⟩
  · by_cases h2 : 4096 < most
    · obtain rfl : m = 4096 := by omega
      clear hm
      have h3 : 0 ≤ most := by omega
      go_enter Try.func19, Try.ntmps19
      go_wp2
      go_ret
      exact ⟨_, _, rfl, by rw [HM.out]; exact (K.out _ rfl).1, (K.out _ rfl).2, by omega, by omega⟩
    · obtain rfl : m = most := by omega
      clear hm
      have h3 : 0 ≤ m := by omega
      have h4 : m ≤ 4096 := by omega
      go_enter Try.func19, Try.ntmps19
      go_wp2
      go_ret
      exact ⟨_, _, rfl, by rw [HM.out]; exact (K.out _ rfl).1, (K.out _ rfl).2, by omega, by omega⟩
end

end Go.Proofs.Ytolhbcgmlaodbaa.HpI
