/-
  Layer 42: a tick. No condition.
-/
import Derived.Test.YtolhbcgmlaodbaaEdK
import Derived.Deep.CutRange
import Derived.StillTailTactics
namespace Go.Proofs.Ytolhbcgmlaodbaa
open Go Go.RowKit Go.Proofs.Ytolhbcgmlaodbaa.HpI
theorem tick_none {D : List Dj} (h : D = []) : tickJ D = (-1, []) := by subst h; rfl
theorem tick_some {D : List Dj} {b : Nat} (h : best D = some b) : tickJ D = (((dj D b).w : Int), if (dj D b).left = 1 then D.eraseIdx b else D.set b ⟨(dj D b).w, (dj D b).due, (dj D b).left - 1⟩) := by unfold tickJ; rw [h]
theorem TI.set {l : List Wk} {t i : Nat} {E : List Jb} (h : TI l t i E) {j : Nat} {e : Jb} (he : E[j]? = some e) (v : Int) (hv : 1 ≤ v ∧ v ≤ 100) : TI l t i (E.set j { e with left := v }) := by
  refine ⟨fun f hf => ?_, by rw [List.length_set]; exact h.len⟩
  rcases List.mem_or_eq_of_mem_set hf with hf | rfl
  · exact h.j f hf
  · obtain ⟨a, b, c, d⟩ := h.j e (List.mem_of_getElem? he)
    exact ⟨a, b, hv, d⟩
set_option maxRecDepth 100000 in
set_option maxHeartbeats 4000000 in
theorem tick_any {l : List Wk} (ho : ∀ x ∈ l, WkOk x) (h6 : l.length ≤ 6) {t i B pb b mb : Nat} {A : Option Addr} {n ca : Nat} {D : List Dj} {W : World} {F : Nat → Prop} (h : PSO l t i B pb b mb A n ca D W F) (hB : B ≤ W.heap.size) (ht : t ≤ 500) :
    Calls Try.prog 22 #[.pointer (some ⟨pb, 0, none⟩)] W (fun e w' => e = .returned (.int .i64 (tickJ D).1) ∧ After (PSO l t i B pb b mb A n ca (tickJ D).2) F W w') := by
  obtain ⟨E, hD, hT, hP, hF1, hF2⟩ := h
  have q1 := Rec.cell hP.rc 1
  simp at q1
  have hlp := hP.rc.lt
  have HP := hid hP
  have HT := hid hT
  have HF1 := hid hF1
  have HF2 := hid hF2
  have HO := hid ho
  by_cases hE : E = []
  · subst hE
    have hD' : D = [] := by rw [← hD]; rfl
    subst hD'
    have HPK := hid (Peek_none hP.hp)
    clear hD hT hP hF1 hF2 ho
    go_enter Try.func22, Try.ntmps22
    go_wp2_with fail
    refine HPK.out.mono ?_
    rintro _ _ ⟨rfl, x1, rfl⟩
    go_wp2_with fail
    go_ret
    have hb : Below W.heap.size W ((W.past x1).alloc (.cells #[.int .u64 0, .int .i64 0] 71)) := by (repeat (first | exact Below.refl _ _ | refine RowKit.Below.past ?_ _ | refine RowKit.Below.alloc' ?_ _ | refine RowKit.Below.drew' ?_ | refine RowKit.Below.drewN' ?_ _ | refine RowKit.Below.setCell' ?_ (by simp [go_sem]) _))
    obtain ⟨g1, g2⟩ := HP.out.ks (KS.of_below (S := fun _ => False) hb) (fun _ _ h => h)
    exact ⟨rfl, PSO.after HF2.out hB rfl HT.out g1 (fun k hf => .inl (HF1.out k (g2 k hf))) (Kept.of_below hb F)⟩
  · have hlen : 0 < (E.map Jb.it).length := by rw [List.length_map]; exact List.length_pos_iff.2 hE
    have HPK := hid (Peek_some hP.hp hlen)
    have HLE := hid hlen
    have HD := hid hD
    clear hD hT hP hF1 hF2 ho hE hlen
    go_enter Try.func22, Try.ntmps22
    go_wp2_with fail
    refine HPK.out.mono ?_
    rintro _ w1 ⟨x, hx, rfl, hb1⟩
    obtain ⟨j, e, hbe, he, rfl⟩ := HT.out.least HO.out ht HP.out.hp.good.nd hx.1 hx.2
    have hm := List.mem_of_getElem? he
    rw [show kvOf e.it = .tuple #[.agg #[.int .u64 e.due, .int .i64 ((e.w : Int) * 501 + e.nth)], .pointer (some ⟨e.blk, 0, none⟩), .bool true] from rfl]
    obtain ⟨hbx, hbB, hbn, hbp⟩ := HP.out.bx e hm
    obtain ⟨hw1, hw2, hw3, hw4⟩ := HT.out.j e hm
    have hnn := HT.out.nth HO.out hm
    obtain ⟨w2, ew2⟩ : ∃ w2, w2 = w1.alloc (.cells #[.int .u64 e.due, .int .i64 ((e.w : Int) * 501 + e.nth)] 71) := ⟨_, rfl⟩
    obtain ⟨K, eK⟩ : ∃ K, w1.heap.size = K := ⟨_, rfl⟩
    have hb2 : Below w1.heap.size w1 w2 := by rw [ew2]; exact (Below.refl _ w1).alloc (Nat.le_refl _) _
    have hrK : Rec w2 K 71 #[.int .u64 e.due, .int .i64 ((e.w : Int) * 501 + e.nth)] := by rw [ew2, ← eK]; exact Rec.new w1 _ _
    have hb02 : Below W.heap.size W w2 := below_trans' hb1 hb2
    obtain ⟨hP2, hF2'⟩ := HP.out.ks (KS.of_below (S := fun _ => False) hb02) (fun _ _ h => h)
    obtain ⟨w3, ew3⟩ : ∃ w3, w3 = w2.setCell ⟨e.blk, 0, none⟩ (.int .i64 (e.left - 1)) := ⟨_, rfl⟩
    obtain ⟨hP3, hF3⟩ := hP2.dec he (e.left - 1)
    rw [← ew3] at hP3 hF3
    have hbx2 := (hP2.bx e hm).1
    have c2 := hbx2.cell
    have f2 := hbx2.frozen
    have l2 := hbx2.lt
    have hKb : K ≠ e.blk := by have := hbx.lt; have := hb1.size; omega
    have hrK3 : Rec w3 K 71 #[.int .u64 e.due, .int .i64 ((e.w : Int) * 501 + e.nth)] := by rw [ew3]; exact (Below.heap_setCell w2 ⟨e.blk, 0, none⟩ _ K hKb).trans hrK
    have hk3 : Kept F W w3 := by
      rw [ew3]
      exact (Kept.of_below hb02 F).setCell (p := ⟨e.blk, 0, none⟩) (.inr (HF1.out _ (.inr (.inr ⟨e, hm, rfl⟩)))) _
    have hWK : W.heap.size ≤ K := by have := hb1.size; omega
    have e1 : IntKind.i64.wrap (e.left - 1) = e.left - 1 := by rw [IntKind.wrap_i64]; omega
    have hc3 : w3.cell? ⟨e.blk, 0, none⟩ = some (.int .i64 (e.left - 1)) := by
      rw [ew3]; exact Boxed.cell (hbx2.set _)
    have hl3 : e.blk < w3.heap.size := World.block_lt_of_cell? w3 _ hc3
    have EW2 := hid ew2
    have EW3 := hid ew3
    have HRK := hid hrK3
    have HP3 := hid hP3
    have HF3 := hid (show ∀ k, footE pb b mb (E.set j { e with left := e.left - 1 }) w3 k → F k from fun k hf => HF1.out k (hF2' k (hF3 k hf)))
    have HK3 := hid hk3
    have HE := hid he
    have hq3 := Rec.cell hP3.rc 1
    simp at hq3
    have hlp3 := hP3.rc.lt
    rw [HD.out] at hbe
    have HTJ := hid (tick_some hbe)
    have HBE := hid hbe
    have hdj : dj D j = e.dj := by rw [← HD.out]; exact dj_of he
    have HDJ := hid hdj
    have HIT := hid (show (E.set j { e with left := e.left - 1 }).map Jb.it = E.map Jb.it from by
      rw [List.map_set]; exact set_self (by rw [List.getElem?_map, he]; rfl))
    have hdv : IntKind.i64.wrap (((e.w : Int) * 501 + e.nth).tdiv 501) = e.w := by
      rw [Int.tdiv_eq_ediv_of_nonneg (by omega), IntKind.wrap_i64]; omega
    have HW3 := hid hw3
    clear hP3 hk3 hrK3 hrK hbe hdj hb02 hP2 hbx hbx2 hbB hbn hbp hw1 hw2 hw4 hm hx he hF3 hF2' hKb hb2 hnn ew2 ew3 HPK
    go_upto_region 4 with (fail)
    rw [← EW2.out]
    go_upto_region 5 with (fail)
    rw [← EW3.out]
    clear q1 c2 f2 l2 e1
    have HR0 := hid (show ∀ W' : World, W'.heap[K]? = w3.heap[K]? → W'.cell? ⟨K, 1, none⟩ = some (.int .i64 ((e.w : Int) * 501 + e.nth)) ∧ K < W'.heap.size from fun W' hW => by
      have hr : Rec W' K 71 #[.int .u64 e.due, .int .i64 ((e.w : Int) * 501 + e.nth)] := hW.trans HRK.out
      have := Rec.cell hr 1
      simp at this
      exact ⟨this, hr.lt⟩)
    by_cases hl1 : e.left = 1
    · rw [show e.left - 1 = 0 by omega] at hc3
      have HPP := hid (Pop_some HP3.out.hp (by rw [HIT.out]; exact HLE.out) (by have := HK3.out.size; omega))
      have HL1 := hid hl1
      clear hw3 hl1
      go_wp2_with fail
      refine HPP.out.mono ?_
      rintro _ w4 ⟨x, rfl, hx, ⟨L', hp', hH'⟩, hb4, hk4⟩
      rw [HIT.out] at hx hp'
      obtain ⟨j', e', hbe', he', rfl⟩ := HT.out.least HO.out ht HP.out.hp.good.nd hx.1 hx.2
      have hjj : j' = j := by
        rw [HD.out, HBE.out] at hbe'
        exact (Option.some.inj hbe').symm
      subst hjj
      have hee : e' = e := by have := HE.out; rw [he'] at this; exact Option.some.inj this
      subst hee
      have hjl := (List.getElem?_eq_some_iff.1 he').1
      have hse : (E.set j' { e' with left := e'.left - 1 })[j']? = some { e' with left := e'.left - 1 } := by rw [List.getElem?_set_self hjl]
      obtain ⟨g1, g2⟩ := HP3.out.off hse (L' := L') (W' := w4) (by rw [HIT.out]; exact hp') hH' hk4
      rw [List.eraseIdx_set_eq] at g1 g2
      have hnK : ¬ hF b mb w3 K := fun hf => by
        have := (HF2.out K (HF3.out K (.inr (.inl hf)))).2
        omega
      obtain ⟨r1, r2⟩ := HR0.out w4 (hk4.kept.block K HRK.out.lt hnK)
      have HG := hid (And.intro g1 g2)
      have HK4 := hid hk4
      have HE2 := hid he'
      clear g1 g2 hse he' hbe' hx hp' hH' hb4 hk4 hnK hjl hq3 hc3
      go_wp2_with fail
      go_ret
      have hl1 : (dj D j').left = 1 := by rw [HDJ.out]; exact HL1.out
      refine ⟨?_, PSO.after HF2.out hB ?_ (HT.out.sub (List.eraseIdx_sublist E j')) HG.out.1 (fun k hf => .inl (HF3.out k (HG.out.2 k hf))) ?_⟩
      · rw [HTJ.out, HDJ.out]
        rfl
      · rw [HTJ.out]
        simp only [hl1, if_true]
        rw [← HD.out, List.eraseIdx_eq_take_drop_succ, List.eraseIdx_eq_take_drop_succ, List.map_append, List.map_take, List.map_drop]
      · exact HK3.out.trans' HK4.out.kept (fun k hk hf => HF3.out k (.inr (.inl hf)))
    · have hz : ¬ e.left - 1 = 0 := by omega
      have HL1 := hid hl1
      obtain ⟨m, em⟩ : ∃ m, e.left - 1 = m := ⟨_, rfl⟩
      have EM := hid em
      rw [em] at hc3 hz
      clear hl1 em
      have HR1 := HR0.out w3 rfl
      obtain ⟨r1, r2⟩ := HR1
      go_wp2_with fail
      go_ret
      have hl1 : ¬ (dj D j).left = 1 := by rw [HDJ.out]; exact HL1.out
      have hh := HW3.out
      have hlo := HL1.out
      refine ⟨?_, PSO.after HF2.out hB ?_ (HT.out.set HE.out (e.left - 1) (by omega)) HP3.out (fun k hf => .inl (HF3.out k hf)) HK3.out⟩
      · rw [HTJ.out, HDJ.out]
        rfl
      · rw [HTJ.out]
        simp only [hl1, if_false]
        rw [List.map_set, HD.out, HDJ.out]
        rfl
end Go.Proofs.Ytolhbcgmlaodbaa
