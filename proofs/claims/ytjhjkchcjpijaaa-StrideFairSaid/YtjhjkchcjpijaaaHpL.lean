/-
  Layer 04 (heaps), at this dump: heaps of ints: Push. No condition.
-/
import Derived.Test.YtjhjkchcjpijaaaHpK
import Derived.Deep.RegionLaw
namespace Go.Proofs.Ytjhjkchcjpijaaa.HpI
open Go Go.RowKit Go.Proofs.Ytjhjkchcjpijaaa
abbrev zval : Value := .int .i64 0
abbrev nby : Nat := 24
theorem info_item : (Try.prog.info? tI).map (fun i => (i.zero, i.size, i.bytes)) = some (some (.agg #[.int .u64 0, .int .i64 0, zval]), 3, nby) := by kernel_rfl
/-- A heap that holds L, in whatever order. -/
structure HP (B : Nat) (w : World) (b mb : Nat) (most : Int) (L : List (Hp.It A)) : Prop where
  ex : ∃ l, HAt B w b mb most l ∧ Hp.Ord l ∧ l.Perm L
  good : Good L
section
variable {B : Nat} {w w' : World} {b mb : Nat} {most : Int} {l L : List (Hp.It A)}
theorem HP.far (h : HP B w b mb most L) (hb : Below w.heap.size w w') : HP B w' b mb most L := by
  obtain ⟨l, h1, h2, h3⟩ := h.ex
  exact ⟨⟨l, h1.far hb, h2, h3⟩, h.good⟩
theorem HP.perm {L' : List (Hp.It A)} (h : HP B w b mb most L) (p : L.Perm L') : HP B w b mb most L' := by
  obtain ⟨l, h1, h2, h3⟩ := h.ex
  exact ⟨⟨l, h1, h2, h3.trans p⟩, h.good.perm p.symm⟩
theorem HP.lt (h : HP B w b mb most L) : b < w.heap.size := by
  obtain ⟨l, h1, _⟩ := h.ex
  exact h1.lt
theorem idx_some_iff {z : Int} (hnd : (l.map (·.id)).Nodup) : (idx l z).isSome = true ↔ z ∈ l.map (·.id) := by
  constructor
  · intro h
    apply Classical.byContradiction
    intro hn
    rw [idx_none (fun x hx e => hn (List.mem_map.2 ⟨x, hx, e⟩))] at h
    cases h
  · intro h
    obtain ⟨x, hx, rfl⟩ := List.mem_map.1 h
    obtain ⟨j, hj, rfl⟩ := List.getElem_of_mem hx
    rw [idx_at hnd hj]
    rfl
theorem past_map {f : Int → Option Int} {c : Nat} (h : MapI Try.prog 3 w mb f c) (z : Int) (hz : I64 z) (x : Past) :
    (Instr.lookup 62 (.map (some mb)) (.int .i64 z) true).run Try.prog (w.past x) = .ok (.tuple #[.int .i64 ((f z).getD 0), .bool (f z).isSome]) (w.past x) :=
  (h.below (w.below_past x) h.lt).look (by kernel_rfl) (by kernel_rfl) (by go_simp) hz
theorem idx_snoc (x : Hp.It A) (hnd : ((l ++ [x]).map (·.id)).Nodup) (z : Int) : upd (idx l) x.id (some (l.length : Int)) z = idx (l ++ [x]) z := by
  have hl : (l.map (·.id)).Nodup := by rw [List.map_append, List.nodup_append] at hnd; exact hnd.1
  unfold upd
  by_cases e : z = x.id
  · subst e
    rw [if_pos rfl]
    have h1 := idx_at hnd (j := l.length) (by simp)
    rw [List.getElem_append_right (Nat.le_refl _)] at h1
    simp only [Nat.sub_self, List.getElem_cons_zero] at h1
    exact h1.symm
  · rw [if_neg e]
    by_cases hz : z ∈ l.map (·.id)
    · obtain ⟨y, hy, rfl⟩ := List.mem_map.1 hz
      obtain ⟨j, hj, rfl⟩ := List.getElem_of_mem hy
      rw [idx_at hl hj]
      have h1 := idx_at hnd (j := j) (by simp; omega)
      rw [List.getElem_append_left hj] at h1
      exact h1.symm
    · rw [idx_none (fun y hy e' => hz (List.mem_map.2 ⟨y, hy, e'⟩)), idx_none (fun y hy e' => ?_)]
      rcases List.mem_append.1 hy with hy | hy
      · exact hz (List.mem_map.2 ⟨y, hy, e'⟩)
      · rw [List.mem_singleton.1 hy] at e'
        exact e e'.symm
theorem up_snoc (x : Hp.It A) (h : Hp.Ord l) : Hp.Up (l ++ [x]) l.length := by
  refine ⟨fun k hk hkl k0 => ?_, fun k hk k0 hp _ => ?_⟩
  · have hkl' : k < l.length := by simp at hkl; omega
    have hp := Hp.par_lt k0
    rw [List.getElem_append_left hkl', List.getElem_append_left (by omega : Hp.par k < l.length)]
    exact h k hkl' k0
  · have := Hp.par_lt k0
    simp at hk
    omega
theorem Good.snoc (h : Good l) (x : Hp.It A) (hn : ¬ x.id ∈ l.map (·.id)) (hx : I64 x.id) (hl : l.length < 4096) : Good (l ++ [x]) := by
  refine ⟨?_, fun y hy => ?_, by simp; omega⟩
  · rw [List.map_append, List.nodup_append]
    refine ⟨h.nd, by simp, fun a ha c hc e => ?_⟩
    simp at hc
    subst hc e
    exact hn ha
  · rcases List.mem_append.1 hy with hy | hy
    · exact h.i64 y hy
    · rw [List.mem_singleton.1 hy]; exact hx
/-- What Push answers. -/
def pushE (L : List (Hp.It A)) (most : Int) (id : Int) : Int := if id ∈ L.map (·.id) then 12 else if most ≤ L.length then 3 else 0
def pushL (L : List (Hp.It A)) (most : Int) (x : Hp.It A) : List (Hp.It A) := if pushE L most x.id = 0 then x :: L else L
set_option maxRecDepth 100000 in
set_option maxHeartbeats 4000000 in
theorem Push_any (h : HP B w b mb most L) (hm : most ≤ 4096) (hB : B ≤ w.heap.size) (x : Hp.It A) (hx : I64 x.id) :
    Calls Try.prog 21 #[.pointer (some ⟨b, 0, none⟩), .agg #[.int .u64 x.v, .int .i64 x.id], val x.x] w (fun e w' => e = .returned (.int .i64 (pushE L most x.id)) ∧ HP B w' b mb most (pushL L most x) ∧ Below B w w' ∧ HGrew b mb w w') := by
  have H := hid h
  have HX := hid (And.intro hx hm)
  obtain ⟨j0, ji, jz0, jz1, jz2⟩ := info_parts info_item
  have HJ := hid ji
  clear ji
  obtain ⟨l, h1, h2, h3⟩ := h.ex
  obtain ⟨xv, xi, xx⟩ := x
  obtain ⟨w1, ew1⟩ : ∃ w1, w1 = w.alloc (.cells #[.int .u64 xv, .int .i64 xi] 47) := ⟨_, rfl⟩
  have hb1 : Below w.heap.size w w1 := by rw [ew1]; exact (Below.refl _ w).alloc (Nat.le_refl _) _
  have hR1 : Rec w1 w.heap.size 47 #[.int .u64 xv, .int .i64 xi] := by rw [ew1]; exact Rec.new w _ _
  have h1' := h1.far hb1
  have HA := hid h1'
  have HO := hid (And.intro h2 h3)
  have HB1 := hid hb1
  have HR1 := hid hR1
  have EW1 := hid ew1
  obtain ⟨g, eg⟩ : ∃ g, w.heap.size = g := ⟨_, rfl⟩
  have EG := hid eg
  rw [eg] at hR1
  have k0 := Rec.cell hR1 0
  have k1 := Rec.cell hR1 1
  simp at k0 k1
  obtain ⟨a, c, q0, q1, q2, -⟩ := h1'.cells
  have hlook := past_map h1'.mp xi hx
  clear h hx hm h1 h2 h3 hb1 hR1 h1' eg ew1
  go_enter Try.func21, Try.ntmps21
  go_wp2_with fail
  rw [← EW1.out, EG.out]
  refine wp_region_past (by kernel_rfl) (by kernel_rfl) ?_
  repeat (go_big_quiet_step ((fail)))
  refine wpQuiet_nil ?_
  rintro _ ⟨_, rfl⟩
  rename_i xq
  have hL := HO.out.2
  by_cases hthere : (idx l xi).isSome = true
  · have HT := hid hthere
    rw [hthere]
    clear hthere hL
    go_wp2_with fail
    go_ret
    have hin : xi ∈ L.map (·.id) := ((HO.out.2.map _).mem_iff).1 ((idx_some_iff (H.out.good.perm HO.out.2).nd).1 HT.out)
    have hE : pushE L most xi = 12 := by unfold pushE; rw [if_pos hin]
    have hb := HB1.out.trans ((w1.below_past xq).mono HB1.out.size)
    refine ⟨by rw [hE]; rfl, ?_, hb.mono hB, (HKept.of_below hb H.out.lt).grew⟩
    have e : pushL L most ⟨xv, xi, xx⟩ = L := by unfold pushL; rw [if_neg (by show ¬ pushE L most xi = 0; rw [hE]; decide)]
    rw [e]
    exact H.out.far hb
  · have HT := hid hthere
    rw [Bool.not_eq_true] at hthere
    rw [hthere]
    have hb2 := HB1.out.trans ((w1.below_past xq).mono HB1.out.size)
    have hbb := w1.below_past xq
    obtain ⟨w2, ew2⟩ : ∃ w2, w2 = w1.past xq := ⟨_, rfl⟩
    have hA2 := HA.out.far hbb
    have hR2 := HR1.out.below hbb (Nat.le_refl _)
    rw [← ew2] at hb2 hA2 hR2 ⊢
    rw [EG.out] at hR2
    clear ew2 hbb q0 q1 q2 k0 k1 hlook a c
    have k0 := Rec.cell hR2 0
    have k1 := Rec.cell hR2 1
    simp at k0 k1
    obtain ⟨a, c, q0, q1, q2, -⟩ := hA2.cells
    have HB2 := hid hb2
    have HA2 := hid hA2
    have HR2 := hid hR2
    obtain ⟨n, en⟩ : ∃ n, l.length = n := ⟨_, rfl⟩
    have EN := hid en
    rw [en] at q1
    clear hb2 hA2 hR2 hthere hL en
    by_cases hf : most ≤ (n : Int)
    · have HF := hid hf
      go_wp2_with fail
      refine wp_region_past (by kernel_rfl) (by kernel_rfl) ?_
      repeat (go_big_quiet_step ((fail)))
      refine wpQuiet_nil ?_
      rintro _ ⟨_, rfl⟩
      rename_i x3
      go_wp2_with fail
      go_ret
      have hin : ¬ xi ∈ L.map (·.id) := fun h => HT.out ((idx_some_iff (H.out.good.perm HO.out.2).nd).2 (((HO.out.2.map _).mem_iff).2 h))
      have hE : pushE L most xi = 3 := by unfold pushE; rw [if_neg hin, if_pos (by rw [← HO.out.2.length_eq, EN.out]; exact HF.out)]
      have hb := HB2.out.trans ((w2.below_past x3).mono HB2.out.size)
      refine ⟨by rw [hE]; rfl, ?_, hb.mono hB, (HKept.of_below hb H.out.lt).grew⟩
      have e : pushL L most ⟨xv, xi, xx⟩ = L := by unfold pushL; rw [if_neg (by show ¬ pushE L most xi = 0; rw [hE]; decide)]
      rw [e]
      exact H.out.far hb
    · have HF := hid hf
      go_wp2_with fail
      refine wp_region_past (by kernel_rfl) (by kernel_rfl) ?_
      repeat (go_big_quiet_step ((fail)))
      refine wpQuiet_nil ?_
      rintro _ ⟨_, rfl⟩
      rename_i x3
      have hb3 := HB2.out.trans ((w2.below_past x3).mono HB2.out.size)
      have hbb := w2.below_past x3
      obtain ⟨w3, ew3⟩ : ∃ w3, w3 = w2.past x3 := ⟨_, rfl⟩
      have hA3 := HA2.out.far hbb
      have hR3 := HR2.out.below hbb (Nat.le_refl _)
      rw [← ew3] at hb3 hA3 hR3 ⊢
      clear ew3 hbb q0 q1 q2 k0 k1 x3
      have k0 := Rec.cell hR3 0
      have k1 := Rec.cell hR3 1
      simp at k0 k1
      obtain ⟨a3, c3, q0, q1, q2, -⟩ := hA3.cells
      rw [EN.out] at q1
      have HB3 := hid hb3
      have HA3 := hid hA3
      have HR3 := hid hR3
      have hlen := H.out.good.len
      rw [← HO.out.2.length_eq, EN.out] at hlen
      have hn4 : n < 4096 := by have := HF.out; have := HX.out.2; omega
      have HN4 := hid hn4
      clear hb3 hA3 hR3 hlen hn4
      go_wp2_with fail
      refine wp_region_last (C := fun w' => ∃ x : Past, w' = w3.past x) 11 [] (by kernel_rfl) (by kernel_rfl) (by kernel_rfl) rfl (by kernel_rfl) (.inl rfl) (past_of ⟨rfl, rfl, rfl, Nat.le_refl _, fun _ _ => rfl⟩) ?_
      simp only [List.take_succ_cons, List.take_zero]
      repeat (go_big_quiet_step ((fail)))
      refine wpQuiet_nil ?_
      rintro _ ⟨xq, rfl⟩
      have hbb := w3.below_past xq
      have hA4 := HA3.out.far hbb
      have hR4 := HR3.out.below hbb (Nat.le_refl _)
      obtain ⟨w4, ew4⟩ : ∃ w4, w4 = w3.past xq := ⟨_, rfl⟩
      rw [← ew4] at hbb hA4 hR4 ⊢
      have HBB := hid hbb
      have HA4 := hid hA4
      have HR4 := hid hR4
      obtain ⟨w5, r5, m5, g5, -⟩ := hA4.mp.store (m := 62) (x := xi) (y := (n : Int)) (by kernel_rfl) (by kernel_rfl) HX.out.1 (by unfold I64; have := HN4.out; omega) (by rw [EN.out]; unfold maxLen; have := HN4.out; omega)
      have M5 := hid m5
      have G5 := hid g5
      clear ew4 hbb hA4 hR4 m5 g5
      obtain ⟨a5, c5, hrec4, hown4⟩ := HA4.out.ex
      have hrec5 : Rec w5 b tH #[.int .i64 most, .slice a5 l.length c5, .map (some mb)] := (G5.out.block b hrec4.lt (fun e => rec_not_map hrec4 HA4.out.mp (by injection e))).trans hrec4
      have hown5 := hown4.kept G5.out (.inr fun e => own_not_map hown4 HA4.out.mp e.symm)
      have hkey5 : Rec w5 g 47 #[.int .u64 xv, .int .i64 xi] := (G5.out.block g HR4.out.lt (fun e => rec_not_map HR4.out HA4.out.mp (by injection e))).trans HR4.out
      have hb5 : Below B w w5 := ((HB3.out.trans (HBB.out.mono HB3.out.size)).mono hB).grown G5.out (by have := HA4.out.big; have := HA4.out.lt; omega) (fun j e => by injection e with e; have := HA4.out.mbig; omega)
      have d0 := Rec.cell hkey5 0
      have d1 := Rec.cell hkey5 1
      have d2 := Rec.cell hrec5 1
      have f1 := Rec.frozen hrec5 1
      simp at d0 d1 d2
      rw [EN.out] at d2
      have hlt5 := Rec.lt hrec5
      have hltg := Rec.lt hkey5
      have hs5 : B ≤ w5.heap.size := by have := HA4.out.big; omega
      have hbg : ¬ b = g := by
        intro e
        have h1 := hrec5
        have h2 := hkey5
        rw [← e] at h2
        have h3 : w5.heap[b]? = some (.cells #[.int .u64 xv, .int .i64 xi] 47 (0, 0)) := h2
        have h4 : w5.heap[b]? = some (.cells #[.int .i64 most, .slice a5 l.length c5, .map (some mb)] tH (0, 0)) := h1
        rw [h3] at h4
        injection h4 with h4
        injection h4 with _ h4
        exact absurd h4 (by decide)
      have HREC5 := hid hrec5
      have HOWN5 := hid hown5
      have HKEY5 := hid hkey5
      have HB5 := hid hb5
      have HON := hid (show w5.drew.ownsRow B tI 3 (.slice a5 n c5) n (tab itV l) by rw [← EN.out]; exact hown5.drew)
      clear hrec4 hown4 hrec5 hown5 hkey5 hb5 k0 k1 q0 q1 q2
      refine wpOp_step rfl (fun K hK => ?_)
      go_simp
      refine hK _ _ ?_
      clear hK K
      go_wp2_with fail
      go_region_law ((refine step_pushB rfl (.tmp 47) (.tmp 51) 63 rfl tI j0 (.agg #[.int .u64 0, .int .i64 0, zval]) 3 nby Try.underlying63 HJ.out jz0 jz1 jz2 rfl (by decide) B ?_ (.slice a5 n c5) n (tab itV l) ?_ HON.out _ #[.int .u64 xv, .int .i64 xi, val xx] ?_ rfl rfl ?_ ?_ ?_ ?_; (· exact hs5); (· rfl); (· simp [go_sem]); (· simp [Value.oneCell']); (· have := HN4.out; unfold nby; omega); (· have := HN4.out; unfold maxLen; omega); intro w6 g6 c6 ho6 hg6 hap; have HAP := hid hap; clear hap; have HO6 := hid ho6; have HG6 := hid hg6; have HR6 := hid (Rec.grown (Rec.drew HREC5.out) HON.out hg6 (by decide)); have f16 : w6.frozen? ⟨b, 1, none⟩ = false := Rec.frozen HR6.out 1; have hlt6 := Rec.lt HR6.out; have d16 : w6.cell? ⟨b, 1, none⟩ = some (.slice a5 n c5) := (by rw [Rec.cell HR6.out, ← EN.out]; rfl); clear ho6 hg6))
      all_goals (
        have hnm : some mb ≠ (Value.slice a5 n c5).ownBlock := own_not_map (w := w5.drew) HON.out (M5.out.block rfl)
        have hbm : b ≠ mb := rec_not_map HREC5.out M5.out
        obtain ⟨w7, ew7⟩ : ∃ w7, w7 = w6.setCell ⟨b, 1, none⟩ (.slice (some ⟨g6, 0, none⟩) (n + 1) c6) := ⟨_, rfl⟩
        have hnd' := H.out.good.perm HO.out.2
        have hxi : ¬ xi ∈ l.map (·.id) := fun h => HT.out ((idx_some_iff hnd'.nd).2 h)
        have hg7 : Good (l ++ [⟨xv, xi, xx⟩]) := hnd'.snoc ⟨xv, xi, xx⟩ hxi HX.out.1 (by rw [EN.out]; exact HN4.out)
        have l1 : (l ++ [(⟨xv, xi, xx⟩ : Hp.It A)]).length = n + 1 := by rw [List.length_append, EN.out]; rfl
        have hA7 : HAt B w7 b mb most (l ++ [⟨xv, xi, xx⟩]) := by
          refine ⟨HA4.out.big, HA4.out.mbig, ⟨some ⟨g6, 0, none⟩, c6, ?_, ?_⟩, ?_⟩
          · have := Rec.set HR6.out 1 (.slice (some ⟨g6, 0, none⟩) (n + 1) c6)
            rw [l1, ew7]
            simpa using this
          · have := own_setB HO6.out HR6.out (by decide) 1 (.slice (some ⟨g6, 0, none⟩) (n + 1) c6)
            rw [l1, ew7, ← tab_snoc]
            exact this
          · have h1 := (M5.out.block (w' := w5.drew) rfl).grown HG6.out hnm
            rw [if_neg HT.out] at h1
            have h2 := h1.block (w' := w7) (by rw [ew7]; exact heap_setCell_other _ _ _ _ (fun e => hbm e.symm))
            rw [show (l ++ [(⟨xv, xi, xx⟩ : Hp.It A)]).length = l.length + 1 by rw [l1, EN.out]]
            refine h2.ext (fun z => ?_)
            rw [← EN.out]
            exact idx_snoc ⟨xv, xi, xx⟩ hg7.nd z
        have hb7 : Below B w w7 := by
          rw [ew7]
          exact (HB5.out.drew.grown HG6.out hs5 (fun k hk => (HON.out.lt k hk).1)).setCell (p := ⟨b, 1, none⟩) HA4.out.big _
        have hk7 : HGrew b mb w w7 := by
          have k1 : HKept b mb w w3 := HKept.of_below HB3.out H.out.lt
          have k2 : HKept b mb w3 w4 := HKept.of_below HBB.out HA3.out.lt
          have k3 : HKept b mb w4 w5 := HKept.map G5.out HA4.out.lt hbm
          have k4 : HKept b mb w5 w5.drew := HKept.of_below (Below.refl _ _).drew hlt5
          have k5 : HKept b mb w5.drew w6 := HKept.row' (Rec.drew HREC5.out) HOWN5.out.drew (by rw [EN.out]; exact HG6.out)
          have k6 : HGrew b mb w5.drew w7 := by
            refine ⟨by rw [ew7]; exact Kept.setCell k5.kept (p := ⟨b, 1, none⟩) (.inr (.inl rfl)) _, fun q hq => ?_⟩
            obtain ⟨n8, c8, h8⟩ := hq
            rw [ew7, Rec.cell (Rec.set HR6.out 1 _) 1] at h8
            simp at h8
            obtain ⟨e8, _, _⟩ := h8
            subst e8
            apply Classical.byContradiction
            intro hno
            have h9 : ¬ rowOf b w5.drew g6 := fun h => hno (.inl h)
            have h10 : g6 < w5.heap.size := by have : ¬ w5.heap.size ≤ g6 := fun h => hno (.inr h); omega
            have h11 : Apart (.slice (some ⟨g6, 0, none⟩) 1 1) (.slice a5 n c5) := by
              refine .inr (.inr fun e => h9 ?_)
              rcases HON.out.2 with ⟨e0, _⟩ | ⟨gx, capx, cur, e0, _, hh, _⟩
              · rw [e0] at e; simp [Value.ownBlock] at e
              · rw [e0] at e
                simp only [Value.ownBlock, Option.some.injEq] at e
                injection e0 with ea
                refine ⟨n, c5, ?_⟩
                show w5.cell? _ = _
                rw [d2, ea, e]
            have h12 := HAP.out _ h11 (fun k hk => by simp only [Value.ownBlock, Option.some.injEq] at hk; rw [← hk]; exact h10)
            rcases h12 with h | h | h
            · simp [Value.ownBlock] at h
            · simp [Value.ownBlock] at h
            · exact h rfl
          exact (((k1.trans k2).trans k3).trans k4).grew.trans k6
        have hS7 : HSt B w7 b mb most (l ++ [⟨xv, xi, xx⟩]) (l ++ [⟨xv, xi, xx⟩]) w7 := ⟨hA7, List.Perm.refl _, Below.refl _ _, HKept.refl _ _ _⟩
        obtain ⟨a7, c7, -, r1, -, -⟩ := hA7.cells
        rw [l1] at r1
        have e1 : IntKind.i64.wrap (((n + 1 : Nat) : Int) - 1) = n := by have := HN4.out; rw [IntKind.wrap_i64] <;> omega
        have HUP := hid (up_any hg7 hS7 (by have := hA7.big; have := hA7.lt; omega) l.length (by rw [l1, EN.out]; omega) (up_snoc ⟨xv, xi, xx⟩ HO.out.1))
        rw [EN.out] at HUP
        have HB7 := hid hb7
        have HK7 := hid hk7
        have HG7 := hid hg7
        rw [← ew7]
        clear hnm hbm ew7 hnd' hxi l1 hA7 hb7 hk7 hS7 d16 f16 hlt6 hg7 d0 d1 d2 f1 hlt5 hltg r5
        obtain ⟨n1, en1⟩ : ∃ n1, n + 1 = n1 := ⟨_, rfl⟩
        rw [en1] at r1 e1
        clear HO6 HR6
        go_wp2_with fail
        refine HUP.out.mono ?_
        rintro _ w8 ⟨rfl, l8, o8, s8⟩
        have O8 := hid (And.intro o8 s8)
        clear o8 s8 HUP
        go_wp2_with fail
        go_ret
        have hin : ¬ xi ∈ L.map (·.id) := fun h => HT.out ((idx_some_iff (H.out.good.perm HO.out.2).nd).2 (((HO.out.2.map _).mem_iff).2 h))
        have hE : pushE L most xi = 0 := by unfold pushE; rw [if_neg hin, if_neg (by rw [← HO.out.2.length_eq, EN.out]; have := HF.out; omega)]
        have e : pushL L most ⟨xv, xi, xx⟩ = ⟨xv, xi, xx⟩ :: L := by unfold pushL; rw [if_pos (show pushE L most xi = 0 from hE)]
        have hp : (l ++ [(⟨xv, xi, xx⟩ : Hp.It A)]).Perm (⟨xv, xi, xx⟩ :: L) := (List.perm_append_singleton _ _).trans (List.Perm.cons _ HO.out.2)
        refine ⟨by rw [hE]; rfl, ?_, HB7.out.trans O8.out.2.bel, HK7.out.trans O8.out.2.kept.grew⟩
        rw [e]
        exact ⟨⟨l8, O8.out.2.at', O8.out.1, O8.out.2.perm.trans hp⟩, HG7.out.perm hp.symm⟩)
end

end Go.Proofs.Ytjhjkchcjpijaaa.HpI
