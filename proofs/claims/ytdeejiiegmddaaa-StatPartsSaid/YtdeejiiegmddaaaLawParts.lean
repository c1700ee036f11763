/-
  Layer 25's StatParts: kinds and locks of two lists of events, one behind the other, are those of both, added. No condition.
-/
import Derived.Test.YtdeejiiegmddaaaStW
import Derived.Test.YtdeejiiegmddaaaStY
import Derived.Test.YtdeejiiegmddaaaLift
import Derived.Test.YtdeejiiegmddaaaAppC
import Derived.Test.YtdeejiiegmddaaaRegSplit
namespace Go.Proofs.Ytdeejiiegmddaaa
open Go Go.RowKit Go.ChangeShapes Go.WideShapes Go.ChangeAt
theorem evs_one (l : List Ev) : ∀ u ∈ tab evV l, u.oneCell' = true := by
  intro u hu
  simp only [tab, List.mem_flatMap] at hu
  obtain ⟨x, _, hx⟩ := hu
  simp only [evV, List.mem_cons, List.not_mem_nil, or_false] at hx
  rcases hx with rfl | rfl | rfl | rfl | rfl <;> rfl
theorem tab_append {α : Type} (f : α → List Value) (a b : List α) : tab f a ++ tab f b = tab f (a ++ b) := by simp [tab]
theorem info_ev : (Try.prog.info? tEv).map (fun i => (i.zero, i.size, i.bytes)) = some (some (.agg (evV ⟨0, 0, 0, 0, 0⟩).toArray), 5, 40) := by kernel_rfl
set_option maxRecDepth 100000 in
set_option maxHeartbeats 16000000 in
theorem StatParts_any (A B : Option Addr) (ca cb na nb : Nat) (a b : List Ev) (ea : a.length = na) (eb : b.length = nb) (hma : na ≤ maxLen) (hmb : nb ≤ maxLen) (w : World) (ha : Cells w A (tab evV a)) (hb : Cells w B (tab evV b)) :
    Calls Try.prog 4 #[.slice A na ca, .slice B nb cb] w (Gives (.bool true) w) := by
  by_cases h60 : 60 < na
  · clear ea eb ha hb hma hmb
    go_enter Try.func4, Try.ntmps4
    go_wp2_with (go_at_call 6; refine (awake_any _).mono ?_; rintro _ _ ⟨rfl, x1, rfl⟩)
    go_ret
    exact ⟨rfl, x1, rfl⟩
  by_cases h61 : 60 < nb
  · clear ea eb ha hb hma hmb
    go_enter Try.func4, Try.ntmps4
    go_wp2_with (go_at_call 6; refine (awake_any _).mono ?_; rintro _ _ ⟨rfl, x1, rfl⟩)
    go_ret
    exact ⟨rfl, x1, rfl⟩
  have h60' : na ≤ 60 := by omega
  have h61' : nb ≤ 60 := by omega
  obtain ⟨i0, hi, hz0, hz1, hz2⟩ := info_parts info_ev
  have HA := hid ha
  have HB := hid hb
  have EA := hid ea
  have EB := hid eb
  have hla : (tab evV a).length = na * 5 := by rw [tab_length evV_length, ea]
  have hlb : (tab evV b).length = nb * 5 := by rw [tab_length evV_length, eb]
  have HLA := hid hla
  have HLB := hid hlb
  clear ha hb ea eb hma hmb hla hlb
  go_enter Try.func4, Try.ntmps4
  go_upto_region 5 with (go_at_call 6; refine (awake_any _).mono ?_; rintro _ _ ⟨rfl, x1, rfl⟩)
  obtain ⟨w0, ew0⟩ : ∃ w0, w0 = w.past x1 := ⟨_, rfl⟩
  have HW0 := hid (show Below w.heap.size w w0 from by rw [ew0]; exact w.below_past x1)
  rw [← ew0]
  clear ew0
  go_upto_region 6 with (first | (at_builtin; refine wpList_appendC rfl (.tmp 25) (.tmp 26) 22 rfl 37 i0 (.agg (evV ⟨0, 0, 0, 0, 0⟩).toArray) 5 40 Try.underlying22 hi hz0 hz1 hz2 rfl (by decide) (w0 := w0) ?_ _ (0) ([]) rfl ?_ _ _ _ (tab evV a) rfl ?_ ?_ ?_ ?_ ?_ ?_; (· (repeat (first | exact Below.refl _ _ | refine RowKit.Below.past ?_ _ | refine RowKit.Below.alloc' ?_ _ | refine RowKit.Below.drew' ?_ | refine RowKit.Below.drewN' ?_ _ | refine RowKit.Below.setCell' ?_ (by simp [go_sem]) _))); (· exact World.ownsRow_lit _ #[] 0 (by simp [go_sem]) (by unfold maxLen; omega) rfl); (· exact HLA.out); (· exact ((HA.out.below HW0.out).alloc _)); (· exact evs_one a); (· (unfold maxLen; omega)); (· omega); intro x2 A2 c2 ho2; simp only [Nat.zero_add, List.nil_append] at ho2) | (at_builtin; refine wpList_appendC rfl (.tmp 27) (.tmp 28) 22 rfl 37 i0 (.agg (evV ⟨0, 0, 0, 0, 0⟩).toArray) 5 40 Try.underlying22 hi hz0 hz1 hz2 rfl (by decide) (w0 := w0) ?_ _ (na) (tab evV a) rfl ?_ _ _ _ (tab evV b) rfl ?_ ?_ ?_ ?_ ?_ ?_; (· (repeat (first | exact Below.refl _ _ | refine RowKit.Below.past ?_ _ | refine RowKit.Below.alloc' ?_ _ | refine RowKit.Below.drew' ?_ | refine RowKit.Below.drewN' ?_ _ | refine RowKit.Below.setCell' ?_ (by simp [go_sem]) _))); (· exact ho2); (· exact HLB.out); (· exact ((HB.out.below HW0.out).past _)); (· exact evs_one b); (· (unfold maxLen; omega)); (· omega); intro x3 A3 c3 ho3))
  obtain ⟨w1, ew1⟩ : ∃ w1, w1 = w0.past x3 := ⟨_, rfl⟩
  have HW1 := hid (show Below w.heap.size w w1 from by rw [ew1]; exact RowKit.Below.past HW0.out x3)
  rw [← ew1] at ho3 ⊢
  have hc := Cells.of_own ho3
  rw [tab_append] at hc
  have HC := hid hc
  have en : (a ++ b).length = na + nb := by rw [List.length_append, EA.out, EB.out]
  have hkx := fun z : Past => Kinds_any A ca na a EA.out (by unfold maxLen; omega) (w1.past z) ((HA.out.below HW1.out).past z)
  have hky := fun z : Past => Kinds_any B cb nb b EB.out (by unfold maxLen; omega) (w1.past z) ((HB.out.below HW1.out).past z)
  have hkz := fun z : Past => Kinds_any A3 c3 (na + nb) (a ++ b) en (by unfold maxLen; omega) (w1.past z) (HC.out.past z)
  have hlx := fun (W : World) (hW : Below w1.heap.size w1 W) => Locks_any A ca na a EA.out (by unfold maxLen; omega) W ((HA.out.below HW1.out).below hW)
  have hly := fun (W : World) (hW : Below w1.heap.size w1 W) => Locks_any B cb nb b EB.out (by unfold maxLen; omega) W ((HB.out.below HW1.out).below hW)
  have hlz := fun (W : World) (hW : Below w1.heap.size w1 W) => Locks_any A3 c3 (na + nb) (a ++ b) en (by unfold maxLen; omega) W (HC.out.below hW)
  have HKA := hid (fun i => show atL (kinK (a ++ b) (na + nb)) i = atL (kinK a na) i + atL (kinK b nb) i from by rw [← EA.out, kin_add])
  have HLK := hid (fun i (hi : i < 8) => show ctA (locK (a ++ b) (na + nb)) i = ctAdd (ctA (locK a na) i) (ctA (locK b nb) i) from by rw [locK_is _ _ _ hi, locK_is _ _ _ hi, locK_is _ _ _ hi, ← EA.out, rlock_add])
  have HIA := hid (fun i => kinK_in a na i)
  have HIB := hid (fun i => kinK_in b nb i)
  have HJA := hid (fun i => locK_in a na i)
  have HJB := hid (fun i => locK_in b nb i)
  have HPX := hid (locK_length a na)
  have HPY := hid (locK_length b nb)
  have HPZ := hid (locK_length (a ++ b) (na + nb))
  obtain ⟨x0, x1, x2, x3, x4, x5, x6, x7, x8, x9, x10, x11, x12, x13, x14, ex⟩ := list15 (kinK_length a na)
  obtain ⟨y0, y1, y2, y3, y4, y5, y6, y7, y8, y9, y10, y11, y12, y13, y14, ey⟩ := list15 (kinK_length b nb)
  obtain ⟨z0, z1, z2, z3, z4, z5, z6, z7, z8, z9, z10, z11, z12, z13, z14, ez⟩ := list15 (kinK_length (a ++ b) (na + nb))
  rw [ex, ey, ez] at HKA
  rw [ex] at HIA
  rw [ey] at HIB
  have HX : Hid (∀ z : Past, Calls Try.prog 10 #[.slice A na ca] (w1.past z) (Gives (.agg #[.int .i64 x0, .int .i64 x1, .int .i64 x2, .int .i64 x3, .int .i64 x4, .int .i64 x5, .int .i64 x6, .int .i64 x7, .int .i64 x8, .int .i64 x9, .int .i64 x10, .int .i64 x11, .int .i64 x12, .int .i64 x13, .int .i64 x14]) (w1.past z))) := hid (fun z => by have h := hkx z; rw [ex] at h; exact h)
  have HX0 : Hid (Calls Try.prog 10 #[.slice A na ca] w1 (Gives (.agg #[.int .i64 x0, .int .i64 x1, .int .i64 x2, .int .i64 x3, .int .i64 x4, .int .i64 x5, .int .i64 x6, .int .i64 x7, .int .i64 x8, .int .i64 x9, .int .i64 x10, .int .i64 x11, .int .i64 x12, .int .i64 x13, .int .i64 x14]) w1)) := hid (by have h := hkx ⟨#[], w1.drawn⟩; rw [ex, ← World.past_refl w1] at h; exact h)
  have HY : Hid (∀ z : Past, Calls Try.prog 10 #[.slice B nb cb] (w1.past z) (Gives (.agg #[.int .i64 y0, .int .i64 y1, .int .i64 y2, .int .i64 y3, .int .i64 y4, .int .i64 y5, .int .i64 y6, .int .i64 y7, .int .i64 y8, .int .i64 y9, .int .i64 y10, .int .i64 y11, .int .i64 y12, .int .i64 y13, .int .i64 y14]) (w1.past z))) := hid (fun z => by have h := hky z; rw [ey] at h; exact h)
  have HZ : Hid (∀ z : Past, Calls Try.prog 10 #[.slice A3 (na + nb) c3] (w1.past z) (Gives (.agg #[.int .i64 z0, .int .i64 z1, .int .i64 z2, .int .i64 z3, .int .i64 z4, .int .i64 z5, .int .i64 z6, .int .i64 z7, .int .i64 z8, .int .i64 z9, .int .i64 z10, .int .i64 z11, .int .i64 z12, .int .i64 z13, .int .i64 z14]) (w1.past z))) := hid (fun z => by have h := hkz z; rw [ez] at h; exact h)
  obtain ⟨LX, elx⟩ : ∃ z, locK a na = z := ⟨_, rfl⟩
  obtain ⟨LY, ely⟩ : ∃ z, locK b nb = z := ⟨_, rfl⟩
  obtain ⟨LZ, elz⟩ : ∃ z, locK (a ++ b) (na + nb) = z := ⟨_, rfl⟩
  rw [elx] at hlx HLK HJA HPX
  rw [ely] at hly HLK HJB HPY
  rw [elz] at hlz HLK HPZ
  clear hc ho3 en hkx hky hkz ex ey ez elx ely elz ew1 hi hz0 hz1 hz2
  go_upto_region 7 with (first | (go_at_call 10; first | ((with_reducible refine HX0.out.mono ?_); rintro _ _ ⟨rfl, xa, rfl⟩) | ((with_reducible refine (HY.out _).mono ?_); rintro _ _ ⟨rfl, xb, rfl⟩) | ((with_reducible refine (HZ.out _).mono ?_); rintro _ _ ⟨rfl, xc, rfl⟩)))
  obtain ⟨y, ey⟩ : ∃ y, (xa.and xb).and xc = y := ⟨_, rfl⟩
  rw [ey]
  obtain ⟨K, eK⟩ : ∃ K, (w1.past y).heap.size = K := ⟨_, rfl⟩
  have hsz : w1.heap.size + y.more = K := by rw [← eK]; simp [go_sem]
  obtain ⟨W3, eW3⟩ : ∃ W, W = (w1.past y).alloc (.cells #[.int .i64 x0, .int .i64 x1, .int .i64 x2, .int .i64 x3, .int .i64 x4, .int .i64 x5, .int .i64 x6, .int .i64 x7, .int .i64 x8, .int .i64 x9, .int .i64 x10, .int .i64 x11, .int .i64 x12, .int .i64 x13, .int .i64 x14] 28) := ⟨_, rfl⟩
  obtain ⟨W4, eW4⟩ : ∃ W, W = W3.alloc (.cells #[.int .i64 y0, .int .i64 y1, .int .i64 y2, .int .i64 y3, .int .i64 y4, .int .i64 y5, .int .i64 y6, .int .i64 y7, .int .i64 y8, .int .i64 y9, .int .i64 y10, .int .i64 y11, .int .i64 y12, .int .i64 y13, .int .i64 y14] 28) := ⟨_, rfl⟩
  obtain ⟨W5, eW5⟩ : ∃ W, W = W4.alloc (.cells #[.int .i64 z0, .int .i64 z1, .int .i64 z2, .int .i64 z3, .int .i64 z4, .int .i64 z5, .int .i64 z6, .int .i64 z7, .int .i64 z8, .int .i64 z9, .int .i64 z10, .int .i64 z11, .int .i64 z12, .int .i64 z13, .int .i64 z14] 28) := ⟨_, rfl⟩
  have hs3 : W3.heap.size = K + 1 := by rw [eW3, ← eK]; simp [go_sem]
  have hs4 : W4.heap.size = K + 1 + 1 := by rw [eW4, ← hs3]; simp [go_sem]
  have HB5 := hid (show Below w1.heap.size w1 W5 from by rw [eW5, eW4, eW3]; exact RowKit.Below.alloc' (RowKit.Below.alloc' (RowKit.Below.alloc' (w1.below_past y) _) _) _)
  have HRX := hid (show Rec W5 K tKs (i64s [x0, x1, x2, x3, x4, x5, x6, x7, x8, x9, x10, x11, x12, x13, x14]).toArray from by rw [eW5, eW4]; refine (Rec.alloc ?_ _).alloc _; rw [eW3, ← eK]; exact Rec.new _ _ _)
  have HRY := hid (show Rec W5 (K + 1) tKs (i64s [y0, y1, y2, y3, y4, y5, y6, y7, y8, y9, y10, y11, y12, y13, y14]).toArray from by rw [eW5]; refine Rec.alloc ?_ _; rw [eW4, ← hs3]; exact Rec.new _ _ _)
  have HRZ := hid (show Rec W5 (K + 1 + 1) tKs (i64s [z0, z1, z2, z3, z4, z5, z6, z7, z8, z9, z10, z11, z12, z13, z14]).toArray from by rw [eW5, ← hs4]; exact Rec.new _ _ _)
  first | rw [hsz, ← eW3, ← eW4, ← eW5] | rw [← eW3, ← eW4, ← eW5]
  have HLX0 := hid (hlx W5 HB5.out)
  have HLY := hid (fun z : Past => hly (W5.past z) (RowKit.Below.past HB5.out z))
  have HLZ := hid (fun z : Past => hlz (W5.past z) (RowKit.Below.past HB5.out z))
  clear eW5 eW4 eW3 hs3 hs4 eK hsz ey hlx hly hlz HX0 HX HY HZ
  go_upto_region 8 with (first | (go_at_call 9; first | ((with_reducible refine HLX0.out.mono ?_); rintro _ w6 ⟨A6, c6, rfl, hb6, ho6⟩; obtain ⟨s6, rfl⟩ := past_of hb6; have HO6 := hid ho6; clear hb6 ho6) | ((with_reducible refine (HLY.out _).mono ?_); rintro _ w7 ⟨A7, c7, rfl, hb7, ho7⟩; obtain ⟨s7, rfl⟩ := past_of hb7; have HO7 := hid ho7; clear hb7 ho7) | ((with_reducible refine (HLZ.out _).mono ?_); rintro _ w8 ⟨A8, c8, rfl, hb8, ho8⟩; obtain ⟨s8, rfl⟩ := past_of hb8; have HO8 := hid ho8; clear hb8 ho8)))
  obtain ⟨t, et⟩ : ∃ t, (s6.and s7).and s8 = t := ⟨_, rfl⟩
  have hc6 : Cells (W5.past t) A6 (tab ctV LX) := by rw [← et]; simp only [← World.past_past]; exact ((Cells.of_own HO6.out).past _).past _
  have hc7 : Cells (W5.past t) A7 (tab ctV LY) := by rw [← et]; have h := Cells.of_own HO7.out; simp only [← World.past_past] at h ⊢; exact h.past _
  have hc8 : Cells (W5.past t) A8 (tab ctV LZ) := by rw [← et]; have h := Cells.of_own HO8.out; simp only [← World.past_past] at h ⊢; exact h
  obtain ⟨W6, eW6⟩ : ∃ W6, W6 = W5.past t := ⟨_, rfl⟩
  rw [et, ← eW6]
  have HB6 := hid (show Below w.heap.size w W6 from by rw [eW6]; exact RowKit.Below.past (HW1.out.trans (HB5.out.mono HW1.out.size)) t)
  have HX6 := hid (show Rec W6 K tKs (i64s [x0, x1, x2, x3, x4, x5, x6, x7, x8, x9, x10, x11, x12, x13, x14]).toArray from by rw [eW6]; exact HRX.out.past t)
  have HY6 := hid (show Rec W6 (K + 1) tKs (i64s [y0, y1, y2, y3, y4, y5, y6, y7, y8, y9, y10, y11, y12, y13, y14]).toArray from by rw [eW6]; exact HRY.out.past t)
  have HZ6 := hid (show Rec W6 (K + 1 + 1) tKs (i64s [z0, z1, z2, z3, z4, z5, z6, z7, z8, z9, z10, z11, z12, z13, z14]).toArray from by rw [eW6]; exact HRZ.out.past t)
  rw [← eW6] at hc6 hc7 hc8
  have HC6 := hid hc6
  have HC7 := hid hc7
  have HC8 := hid hc8
  obtain ⟨XL, eXL⟩ : ∃ L, [x0, x1, x2, x3, x4, x5, x6, x7, x8, x9, x10, x11, x12, x13, x14] = L := ⟨_, rfl⟩
  obtain ⟨YL, eYL⟩ : ∃ L, [y0, y1, y2, y3, y4, y5, y6, y7, y8, y9, y10, y11, y12, y13, y14] = L := ⟨_, rfl⟩
  obtain ⟨ZL, eZL⟩ : ∃ L, [z0, z1, z2, z3, z4, z5, z6, z7, z8, z9, z10, z11, z12, z13, z14] = L := ⟨_, rfl⟩
  have lx : XL.length = 15 := by rw [← eXL]; rfl
  have ly : YL.length = 15 := by rw [← eYL]; rfl
  have lz : ZL.length = 15 := by rw [← eZL]; rfl
  rw [eXL] at HX6 HKA HIA
  rw [eYL] at HY6 HKA HIB
  rw [eZL] at HZ6 HKA
  have HRA : Hid (∀ (g : Nat) (L : List Int) (i : Nat), Rec W6 g tKs (i64s L).toArray → i < L.length → W6.cell? ⟨g, i, none⟩ = some (.int .i64 (atL L i))) := hid (fun g L i h hi => by
    rw [Rec.cell h, List.getElem?_toArray, i64s, List.getElem?_map, List.getElem?_eq_getElem hi]; simp [atL, List.getElem?_eq_getElem hi])
  clear hc6 hc7 hc8 eW6 et HO6 HO7 HO8 HRX HRY HRZ HLX0 HLY HLZ eXL eYL eZL HB5 HC HLA HLB
  go_wp2_with fail
  go_loopw [12, 42] (fun _ v wr => ∃ (i : Nat) (y : Past), v = .int .i64 (i : Int) ∧ i ≤ 15 ∧ wr = W6.past y) (fun _ v _ => 15 - (intOf v).toNat)
  case atStart => exact ⟨0, _, rfl, Nat.zero_le _, World.past_refl W6⟩
  case round =>
    obtain ⟨i, y, rfl, hi, rfl⟩ := hrel
    by_cases hi15 : i < 15
    · have kx := HRA.out _ _ i HX6.out (by omega)
      have ky := HRA.out _ _ i HY6.out (by omega)
      have kz := HRA.out _ _ i HZ6.out (by omega)
      rw [HKA.out i] at kz
      have b1 := HIA.out i
      have b2 := HIB.out i
      obtain ⟨xv, exv⟩ : ∃ z, atL XL i = z := ⟨_, rfl⟩
      obtain ⟨yv, eyv⟩ : ∃ z, atL YL i = z := ⟨_, rfl⟩
      rw [exv] at kx kz b1
      rw [eyv] at ky kz b2
      have ew : IntKind.i64.wrap (xv + yv) = xv + yv := by rw [IntKind.wrap_i64]; omega
      have e1 : IntKind.i64.wrap ((i : Int) + 1) = (i : Int) + 1 := by rw [IntKind.wrap_i64]; omega
      have hi15' : (i : Int) < 15 := by omega
      clear exv eyv b1 b2
      go_wp2_with fail
      refine wp_region_past (by kernel_rfl) (by kernel_rfl) ?_
      repeat (go_big_quiet_step ((fail)))
      refine wpQuiet_nil ?_
      rintro _ ⟨_, rfl⟩
      go_wp2_with fail
      go_roundw
      case rel => exact ⟨i + 1, _, by go_num, by omega, by first | rfl | trivial⟩
      case measure => simp [intOf]; omega
    · have hi16 : ¬ (i : Int) < 15 := by omega
      go_wp2_with fail
      clear hi16 hi15 hi
      obtain ⟨iq, eiq⟩ : ∃ q : Int, (i : Int) = q := ⟨_, rfl⟩
      rw [eiq]
      clear eiq
      go_loopw [13, 71] (fun _ v wr => ∃ (i : Nat), v = .int .i64 (i : Int) ∧ i ≤ 8 ∧ Hid (Below W6.heap.size W6 wr)) (fun _ v _ => 8 - (intOf v).toNat)
      case atStart => exact ⟨0, rfl, Nat.zero_le _, hid (W6.below_past y)⟩
      case round =>
        obtain ⟨i, rfl, hi, H⟩ := hrel
        by_cases hi8 : i < 8
        · obtain ⟨g6, o6, rfl, hcp⟩ := (HC6.out.below H.out).tab_at ctV_length (ct_get (l := LX) (k := i) (by rw [HPX.out]; exact hi8)) (by omega)
          obtain ⟨g7, o7, rfl, hcq⟩ := (HC7.out.below H.out).tab_at ctV_length (ct_get (l := LY) (k := i) (by rw [HPY.out]; exact hi8)) (by omega)
          obtain ⟨g8, o8, rfl, hcr⟩ := (HC8.out.below H.out).tab_at ctV_length (ct_get (l := LZ) (k := i) (by rw [HPZ.out]; exact hi8)) (by omega)
          rw [HLK.out i hi8] at hcr
          have b1 := HJA.out i
          have b2 := HJB.out i
          obtain ⟨⟨u0, u1, u2, u3, u4⟩, eu⟩ : ∃ z, ctA LX i = z := ⟨_, rfl⟩
          obtain ⟨⟨v0, v1, v2, v3, v4⟩, ev⟩ : ∃ z, ctA LY i = z := ⟨_, rfl⟩
          rw [eu] at hcp hcr b1
          rw [ev] at hcq hcr b2
          obtain ⟨d0, d1, d2, d3, d4⟩ := b1
          obtain ⟨f0, f1, f2, f3, f4⟩ := b2
          simp only at d0 d1 d2 d3 d4 f0 f1 f2 f3 f4
          have p0 := hcp 0 _ rfl
          have p1 := hcp 1 _ rfl
          have p2 := hcp 2 _ rfl
          have p3 := hcp 3 _ rfl
          have p4 := hcp 4 _ rfl
          have q0 := hcq 0 _ rfl
          have q1 := hcq 1 _ rfl
          have q2 := hcq 2 _ rfl
          have q3 := hcq 3 _ rfl
          have q4 := hcq 4 _ rfl
          have r0 := hcr 0 _ rfl
          have r1 := hcr 1 _ rfl
          have r2 := hcr 2 _ rfl
          have r3 := hcr 3 _ rfl
          have r4 := hcr 4 _ rfl
          simp only [Nat.add_zero] at p0 q0 r0
          have w0' : IntKind.i64.wrap (u0 + v0) = u0 + v0 := by rw [IntKind.wrap_i64]; omega
          have w1' : IntKind.i64.wrap (u1 + v1) = u1 + v1 := by rw [IntKind.wrap_i64]; omega
          have w2' : IntKind.i64.wrap (u2 + v2) = u2 + v2 := by rw [IntKind.wrap_i64]; omega
          have w3' : IntKind.i64.wrap (u3 + v3) = u3 + v3 := by rw [IntKind.wrap_i64]; omega
          have w4' : IntKind.i64.wrap (u4 + v4) = u4 + v4 := by rw [IntKind.wrap_i64]; omega
          have e1 : IntKind.i64.wrap ((i : Int) + 1) = (i : Int) + 1 := by rw [IntKind.wrap_i64]; omega
          have HCR := hid (And.intro r0 (And.intro r1 (And.intro r2 (And.intro r3 r4))))
          clear hcp hcq hcr eu ev d0 d1 d2 d3 d4 f0 f1 f2 f3 f4
          go_upto_region 19 with (fail)
          have hgp := World.block_lt_of_cell? _ _ p0
          have hgq := World.block_lt_of_cell? _ _ q0
          simp only at hgp hgq
          refine wp_region_split (S := (fun W => W.cell? ⟨g6, o6 + i * 5, none⟩ = some (.int .i64 u0) ∧ W.cell? ⟨g6, o6 + i * 5 + 1, none⟩ = some (.int .i64 u1) ∧ W.cell? ⟨g6, o6 + i * 5 + 2, none⟩ = some (.int .i64 u2) ∧ W.cell? ⟨g6, o6 + i * 5 + 3, none⟩ = some (.int .i64 u3) ∧ W.cell? ⟨g6, o6 + i * 5 + 4, none⟩ = some (.int .i64 u4) ∧ W.cell? ⟨g7, o7 + i * 5, none⟩ = some (.int .i64 v0) ∧ W.cell? ⟨g7, o7 + i * 5 + 1, none⟩ = some (.int .i64 v1) ∧ W.cell? ⟨g7, o7 + i * 5 + 2, none⟩ = some (.int .i64 v2) ∧ W.cell? ⟨g7, o7 + i * 5 + 3, none⟩ = some (.int .i64 v3) ∧ W.cell? ⟨g7, o7 + i * 5 + 4, none⟩ = some (.int .i64 v4))) 57 (by kernel_rfl) (by kernel_rfl) ?_ (fun hHeld => ?_)
          · (first | (simp [go_sem, *]; done))
          simp only [List.take_succ_cons, List.take_zero, List.drop_succ_cons, List.drop_zero]
          refine wpAnyH_take (i := 0) (v := ?_) rfl (by kernel_rfl) (by kernel_rfl) (by kernel_rfl) (fun _ _ _ h => h) (Or.inl ⟨by rfl, ?_⟩) (by assumption) ?_
          rotate_left
          · intro w hSw; (try dsimp only at hSw); go_simp; try with_reducible rfl
          try simp only [put_simp]
          refine wpAnyH_take (i := 1) (v := ?_) rfl (by kernel_rfl) (by kernel_rfl) (by kernel_rfl) (fun _ _ _ h => h) (Or.inl ⟨by rfl, ?_⟩) (by assumption) ?_
          rotate_left
          · intro w hSw; (try dsimp only at hSw); go_simp; try with_reducible rfl
          try simp only [put_simp]
          refine wpAnyH_take (i := 2) (v := ?_) rfl (by kernel_rfl) (by kernel_rfl) (by kernel_rfl) (fun _ _ _ h => h) (Or.inl ⟨by rfl, ?_⟩) (by assumption) ?_
          rotate_left
          · intro w hSw; (try dsimp only at hSw); go_simp; try with_reducible rfl
          try simp only [put_simp]
          refine wpAnyH_take (i := 3) (v := ?_) rfl (by kernel_rfl) (by kernel_rfl) (by kernel_rfl) (fun _ _ _ h => h) (Or.inl ⟨by rfl, ?_⟩) (by assumption) ?_
          rotate_left
          · intro w hSw; (try dsimp only at hSw); go_simp; try with_reducible rfl
          try simp only [put_simp]
          refine wpAnyH_take (i := 4) (v := ?_) rfl (by kernel_rfl) (by kernel_rfl) (by kernel_rfl) (fun _ _ _ h => h) (Or.inl ⟨by rfl, ?_⟩) (by assumption) ?_
          rotate_left
          · intro w hSw; (try dsimp only at hSw); go_simp; try with_reducible rfl
          try simp only [put_simp]
          refine wpAnyH_take (i := 5) (v := ?_) rfl (by kernel_rfl) (by kernel_rfl) (by kernel_rfl) (fun _ _ _ h => h) (Or.inl ⟨by rfl, ?_⟩) (by assumption) ?_
          rotate_left
          · intro w hSw; (try dsimp only at hSw); go_simp; try with_reducible rfl
          try simp only [put_simp]
          refine wpAnyH_take (i := 6) (v := ?_) rfl (by kernel_rfl) (by kernel_rfl) (by kernel_rfl) (fun _ _ _ h => h) (Or.inl ⟨by rfl, ?_⟩) (by assumption) ?_
          rotate_left
          · intro w hSw; (try dsimp only at hSw); go_simp; try with_reducible rfl
          try simp only [put_simp]
          refine wpAnyH_take (i := 7) (v := ?_) rfl (by kernel_rfl) (by kernel_rfl) (by kernel_rfl) (fun _ _ _ h => h) (Or.inl ⟨by rfl, ?_⟩) (by assumption) ?_
          rotate_left
          · intro w hSw; (try dsimp only at hSw); go_simp; try with_reducible rfl
          try simp only [put_simp]
          refine wpAnyH_take (i := 8) (v := ?_) rfl (by kernel_rfl) (by kernel_rfl) (by kernel_rfl) (fun _ _ _ h => h) (Or.inl ⟨by rfl, ?_⟩) (by assumption) ?_
          rotate_left
          · intro w hSw; (try dsimp only at hSw); go_simp; try with_reducible rfl
          try simp only [put_simp]
          refine wpAnyH_take (i := 9) (v := ?_) rfl (by kernel_rfl) (by kernel_rfl) (by kernel_rfl) (fun _ _ _ h => h) (Or.inl ⟨by rfl, ?_⟩) (by assumption) ?_
          rotate_left
          · intro w hSw; (try dsimp only at hSw); go_simp; try with_reducible rfl
          try simp only [put_simp]
          refine wpAnyH_take (i := 10) (v := ?_) rfl (by kernel_rfl) (by kernel_rfl) (by kernel_rfl) (fun _ _ _ h => h) (Or.inl ⟨by rfl, ?_⟩) (by assumption) ?_
          rotate_left
          · intro w hSw; (try dsimp only at hSw); go_simp; try with_reducible rfl
          try simp only [put_simp]
          refine wpAnyH_take (i := 11) (v := ?_) rfl (by kernel_rfl) (by kernel_rfl) (by kernel_rfl) (fun _ _ _ h => h) (Or.inl ⟨by rfl, ?_⟩) (by assumption) ?_
          rotate_left
          · intro w hSw; (try dsimp only at hSw); go_simp; try with_reducible rfl
          try simp only [put_simp]
          refine wpAnyH_take (i := 12) (v := ?_) rfl (by kernel_rfl) (by kernel_rfl) (by kernel_rfl) (fun _ _ _ h => h) (Or.inl ⟨by rfl, ?_⟩) (by assumption) ?_
          rotate_left
          · intro w hSw; (try dsimp only at hSw); go_simp; try with_reducible rfl
          try simp only [put_simp]
          refine wpAnyH_take (i := 13) (v := ?_) rfl (by kernel_rfl) (by kernel_rfl) (by kernel_rfl) (fun _ _ _ h => h) (Or.inl ⟨by rfl, ?_⟩) (by assumption) ?_
          rotate_left
          · intro w hSw; (try dsimp only at hSw); go_simp; try with_reducible rfl
          try simp only [put_simp]
          refine wpAnyH_take (i := 14) (v := ?_) rfl (by kernel_rfl) (by kernel_rfl) (by kernel_rfl) (fun _ _ _ h => h) (Or.inl ⟨by rfl, ?_⟩) (by assumption) ?_
          rotate_left
          · intro w hSw; (try dsimp only at hSw); go_simp; try with_reducible rfl
          try simp only [put_simp]
          refine wpAnyH_take (i := 15) (v := ?_) rfl (by kernel_rfl) (by kernel_rfl) (by kernel_rfl) (fun _ _ _ h => h) (Or.inl ⟨by rfl, ?_⟩) (by assumption) ?_
          rotate_left
          · intro w hSw; (try dsimp only at hSw); go_simp; try with_reducible rfl
          try simp only [put_simp]
          refine wpAnyH_take (i := 16) (v := ?_) rfl (by kernel_rfl) (by kernel_rfl) (by kernel_rfl) (fun _ _ _ h => h) (Or.inl ⟨by rfl, ?_⟩) (by assumption) ?_
          rotate_left
          · intro w hSw; (try dsimp only at hSw); go_simp; try with_reducible rfl
          try simp only [put_simp]
          refine wpAnyH_take (i := 17) (v := ?_) rfl (by kernel_rfl) (by kernel_rfl) (by kernel_rfl) (fun _ _ _ h => h) (Or.inl ⟨by rfl, ?_⟩) (by assumption) ?_
          rotate_left
          · intro w hSw; (try dsimp only at hSw); go_simp; try with_reducible rfl
          try simp only [put_simp]
          refine wpAnyH_take (i := 18) (v := ?_) rfl (by kernel_rfl) (by kernel_rfl) (by kernel_rfl) (fun _ _ _ h => h) (Or.inl ⟨by rfl, ?_⟩) (by assumption) ?_
          rotate_left
          · intro w hSw; (try dsimp only at hSw); go_simp; try with_reducible rfl
          try simp only [put_simp]
          refine wpAnyH_take (i := 19) (v := ?_) rfl (by kernel_rfl) (by kernel_rfl) (by kernel_rfl) (fun _ _ _ h => h) (Or.inl ⟨by rfl, ?_⟩) (by assumption) ?_
          rotate_left
          · intro w hSw; (try dsimp only at hSw); go_simp; try with_reducible rfl
          try simp only [put_simp]
          refine wpAnyH_take (i := 20) (v := ?_) rfl (by kernel_rfl) (by kernel_rfl) (by kernel_rfl) (fun _ _ _ h => h) (Or.inl ⟨by rfl, ?_⟩) (by assumption) ?_
          rotate_left
          · intro w hSw; (try dsimp only at hSw); go_simp; try with_reducible rfl
          try simp only [put_simp]
          refine wpAnyH_take (i := 21) (v := ?_) rfl (by kernel_rfl) (by kernel_rfl) (by kernel_rfl) (fun _ _ _ h => h) (Or.inl ⟨by rfl, ?_⟩) (by assumption) ?_
          rotate_left
          · intro w hSw; (try dsimp only at hSw); go_simp; try with_reducible rfl
          try simp only [put_simp]
          refine wpAnyH_take (i := 22) (v := ?_) rfl (by kernel_rfl) (by kernel_rfl) (by kernel_rfl) (fun _ _ _ h => h) (Or.inl ⟨by rfl, ?_⟩) (by assumption) ?_
          rotate_left
          · intro w hSw; (try dsimp only at hSw); go_simp; try with_reducible rfl
          try simp only [put_simp]
          refine wpAnyH_take (i := 23) (v := ?_) rfl (by kernel_rfl) (by kernel_rfl) (by kernel_rfl) (fun _ _ _ h => h) (Or.inl ⟨by rfl, ?_⟩) (by assumption) ?_
          rotate_left
          · intro w hSw; (try dsimp only at hSw); go_simp; try with_reducible rfl
          try simp only [put_simp]
          refine wpAnyH_take (i := 24) (v := ?_) rfl (by kernel_rfl) (by kernel_rfl) (by kernel_rfl) (fun _ _ _ h => h) (Or.inl ⟨by rfl, ?_⟩) (by assumption) ?_
          rotate_left
          · intro w hSw; (try dsimp only at hSw); go_simp; try with_reducible rfl
          try simp only [put_simp]
          refine wpAnyH_take (i := 25) (v := ?_) rfl (by kernel_rfl) (by kernel_rfl) (by kernel_rfl) (fun _ _ _ h => h) (Or.inl ⟨by rfl, ?_⟩) (by assumption) ?_
          rotate_left
          · intro w hSw; (try dsimp only at hSw); go_simp; try with_reducible rfl
          try simp only [put_simp]
          refine wpAnyH_take (i := 26) (v := ?_) rfl (by kernel_rfl) (by kernel_rfl) (by kernel_rfl) (fun _ _ _ h => h) (Or.inl ⟨by rfl, ?_⟩) (by assumption) ?_
          rotate_left
          · intro w hSw; (try dsimp only at hSw); go_simp; try with_reducible rfl
          try simp only [put_simp]
          refine wpAnyH_take (i := 27) (v := ?_) rfl (by kernel_rfl) (by kernel_rfl) (by kernel_rfl) (fun _ _ _ h => h) (Or.inl ⟨by rfl, ?_⟩) (by assumption) ?_
          rotate_left
          · intro w hSw; (try dsimp only at hSw); go_simp; try with_reducible rfl
          try simp only [put_simp]
          refine wpAnyH_take (i := 28) (v := ?_) rfl (by kernel_rfl) (by kernel_rfl) (by kernel_rfl) (fun _ _ _ h => h) (Or.inl ⟨by rfl, ?_⟩) (by assumption) ?_
          rotate_left
          · intro w hSw; (try dsimp only at hSw); go_simp; try with_reducible rfl
          try simp only [put_simp]
          refine wpAnyH_take (i := 29) (v := ?_) rfl (by kernel_rfl) (by kernel_rfl) (by kernel_rfl) (fun _ _ _ h => h) (Or.inl ⟨by rfl, ?_⟩) (by assumption) ?_
          rotate_left
          · intro w hSw; (try dsimp only at hSw); go_simp; try with_reducible rfl
          try simp only [put_simp]
          refine wpAnyH_take (i := 30) (v := ?_) rfl (by kernel_rfl) (by kernel_rfl) (by kernel_rfl) (fun _ _ _ h => h) (Or.inl ⟨by rfl, ?_⟩) (by assumption) ?_
          rotate_left
          · intro w hSw; (try dsimp only at hSw); go_simp; try with_reducible rfl
          try simp only [put_simp]
          refine wpAnyH_take (i := 31) (v := ?_) rfl (by kernel_rfl) (by kernel_rfl) (by kernel_rfl) (fun _ _ _ h => h) (Or.inl ⟨by rfl, ?_⟩) (by assumption) ?_
          rotate_left
          · intro w hSw; (try dsimp only at hSw); go_simp; try with_reducible rfl
          try simp only [put_simp]
          refine wpAnyH_take (i := 32) (v := ?_) rfl (by kernel_rfl) (by kernel_rfl) (by kernel_rfl) (fun _ _ _ h => h) (Or.inl ⟨by rfl, ?_⟩) (by assumption) ?_
          rotate_left
          · intro w hSw; (try dsimp only at hSw); go_simp; try with_reducible rfl
          try simp only [put_simp]
          refine wpAnyH_take (i := 33) (v := ?_) rfl (by kernel_rfl) (by kernel_rfl) (by kernel_rfl) (fun _ _ _ h => h) (Or.inl ⟨by rfl, ?_⟩) (by assumption) ?_
          rotate_left
          · intro w hSw; (try dsimp only at hSw); go_simp; try with_reducible rfl
          try simp only [put_simp]
          refine wpAnyH_take (i := 34) (v := ?_) rfl (by kernel_rfl) (by kernel_rfl) (by kernel_rfl) (fun _ _ _ h => h) (Or.inl ⟨by rfl, ?_⟩) (by assumption) ?_
          rotate_left
          · intro w hSw; (try dsimp only at hSw); go_simp; try with_reducible rfl
          try simp only [put_simp]
          refine wpAnyH_take (i := 35) (v := ?_) rfl (by kernel_rfl) (by kernel_rfl) (by kernel_rfl) (fun _ _ _ h => h) (Or.inl ⟨by rfl, ?_⟩) (by assumption) ?_
          rotate_left
          · intro w hSw; (try dsimp only at hSw); go_simp; try with_reducible rfl
          try simp only [put_simp]
          refine wpAnyH_take (i := 36) (v := ?_) rfl (by kernel_rfl) (by kernel_rfl) (by kernel_rfl) (fun _ _ _ h => h) (Or.inl ⟨by rfl, ?_⟩) (by assumption) ?_
          rotate_left
          · intro w hSw; (try dsimp only at hSw); go_simp; try with_reducible rfl
          try simp only [put_simp]
          refine wpAnyH_take (i := 37) (v := ?_) rfl (by kernel_rfl) (by kernel_rfl) (by kernel_rfl) (fun _ _ _ h => h) (Or.inl ⟨by rfl, ?_⟩) (by assumption) ?_
          rotate_left
          · intro w hSw; (try dsimp only at hSw); go_simp; try with_reducible rfl
          try simp only [put_simp]
          refine wpAnyH_take (i := 38) (v := ?_) rfl (by kernel_rfl) (by kernel_rfl) (by kernel_rfl) (fun _ _ _ h => h) (Or.inl ⟨by rfl, ?_⟩) (by assumption) ?_
          rotate_left
          · intro w hSw; (try dsimp only at hSw); go_simp; try with_reducible rfl
          try simp only [put_simp]
          refine wpAnyH_take (i := 39) (v := ?_) rfl (by kernel_rfl) (by kernel_rfl) (by kernel_rfl) (fun _ _ _ h => h) (Or.inl ⟨by rfl, ?_⟩) (by assumption) ?_
          rotate_left
          · intro w hSw; (try dsimp only at hSw); go_simp; try with_reducible rfl
          try simp only [put_simp]
          refine wpAnyH_take (i := 40) (v := ?_) rfl (by kernel_rfl) (by kernel_rfl) (by kernel_rfl) (fun _ _ _ h => h) (Or.inl ⟨by rfl, ?_⟩) (by assumption) ?_
          rotate_left
          · intro w hSw; (try dsimp only at hSw); go_simp; try with_reducible rfl
          try simp only [put_simp]
          refine wpAnyH_take (i := 41) (v := ?_) rfl (by kernel_rfl) (by kernel_rfl) (by kernel_rfl) (fun _ _ _ h => h) (Or.inl ⟨by rfl, ?_⟩) (by assumption) ?_
          rotate_left
          · intro w hSw; (try dsimp only at hSw); go_simp; try with_reducible rfl
          try simp only [put_simp]
          refine wpAnyH_take (i := 42) (v := ?_) rfl (by kernel_rfl) (by kernel_rfl) (by kernel_rfl) (fun _ _ _ h => h) (Or.inl ⟨by rfl, ?_⟩) (by assumption) ?_
          rotate_left
          · intro w hSw; (try dsimp only at hSw); go_simp; try with_reducible rfl
          try simp only [put_simp]
          refine wpAnyH_take (i := 43) (v := ?_) rfl (by kernel_rfl) (by kernel_rfl) (by kernel_rfl) (fun _ _ _ h => h) (Or.inl ⟨by rfl, ?_⟩) (by assumption) ?_
          rotate_left
          · intro w hSw; (try dsimp only at hSw); go_simp; try with_reducible rfl
          try simp only [put_simp]
          refine wpAnyH_take (i := 44) (v := ?_) rfl (by kernel_rfl) (by kernel_rfl) (by kernel_rfl) (fun _ _ _ h => h) (Or.inl ⟨by rfl, ?_⟩) (by assumption) ?_
          rotate_left
          · intro w hSw; (try dsimp only at hSw); go_simp; try with_reducible rfl
          try simp only [put_simp]
          refine wpAnyH_take (i := 45) (v := ?_) rfl (by kernel_rfl) (by kernel_rfl) (by kernel_rfl) (fun _ _ _ h => h) (Or.inl ⟨by rfl, ?_⟩) (by assumption) ?_
          rotate_left
          · intro w hSw; (try dsimp only at hSw); go_simp; try with_reducible rfl
          try simp only [put_simp]
          refine wpAnyH_take (i := 46) (v := ?_) rfl (by kernel_rfl) (by kernel_rfl) (by kernel_rfl) (fun _ _ _ h => h) (Or.inl ⟨by rfl, ?_⟩) (by assumption) ?_
          rotate_left
          · intro w hSw; (try dsimp only at hSw); go_simp; try with_reducible rfl
          try simp only [put_simp]
          refine wpAnyH_take (i := 47) (v := ?_) rfl (by kernel_rfl) (by kernel_rfl) (by kernel_rfl) (fun _ _ _ h => h) (Or.inl ⟨by rfl, ?_⟩) (by assumption) ?_
          rotate_left
          · intro w hSw; (try dsimp only at hSw); go_simp; try with_reducible rfl
          try simp only [put_simp]
          refine wpAnyH_take (i := 48) (v := ?_) rfl (by kernel_rfl) (by kernel_rfl) (by kernel_rfl) (fun _ _ _ h => h) (Or.inl ⟨by rfl, ?_⟩) (by assumption) ?_
          rotate_left
          · intro w hSw; (try dsimp only at hSw); go_simp; try with_reducible rfl
          try simp only [put_simp]
          refine wpAnyH_take (i := 49) (v := ?_) rfl (by kernel_rfl) (by kernel_rfl) (by kernel_rfl) (fun _ _ _ h => h) (Or.inl ⟨by rfl, ?_⟩) (by assumption) ?_
          rotate_left
          · intro w hSw; (try dsimp only at hSw); go_simp; try with_reducible rfl
          try simp only [put_simp]
          refine wpAnyH_take (i := 50) (v := ?_) rfl (by kernel_rfl) (by kernel_rfl) (by kernel_rfl) (fun _ _ _ h => h) (Or.inl ⟨by rfl, ?_⟩) (by assumption) ?_
          rotate_left
          · intro w hSw; (try dsimp only at hSw); go_simp; try with_reducible rfl
          try simp only [put_simp]
          refine wpAnyH_take (i := 51) (v := ?_) rfl (by kernel_rfl) (by kernel_rfl) (by kernel_rfl) (fun _ _ _ h => h) (Or.inl ⟨by rfl, ?_⟩) (by assumption) ?_
          rotate_left
          · intro w hSw; (try dsimp only at hSw); go_simp; try with_reducible rfl
          try simp only [put_simp]
          refine wpAnyH_take (i := 52) (v := ?_) rfl (by kernel_rfl) (by kernel_rfl) (by kernel_rfl) (fun _ _ _ h => h) (Or.inl ⟨by rfl, ?_⟩) (by assumption) ?_
          rotate_left
          · intro w hSw; (try dsimp only at hSw); go_simp; try with_reducible rfl
          try simp only [put_simp]
          refine wpAnyH_take (i := 53) (v := ?_) rfl (by kernel_rfl) (by kernel_rfl) (by kernel_rfl) (fun _ _ _ h => h) (Or.inl ⟨by rfl, ?_⟩) (by assumption) ?_
          rotate_left
          · intro w hSw; (try dsimp only at hSw); go_simp; try with_reducible rfl
          try simp only [put_simp]
          refine wpAnyH_take (i := 54) (v := ?_) rfl (by kernel_rfl) (by kernel_rfl) (by kernel_rfl) (fun _ _ _ h => h) (Or.inl ⟨by rfl, ?_⟩) (by assumption) ?_
          rotate_left
          · intro w hSw; (try dsimp only at hSw); go_simp; try with_reducible rfl
          try simp only [put_simp]
          refine wpAnyH_take (i := 55) (v := ?_) rfl (by kernel_rfl) (by kernel_rfl) (by kernel_rfl) (fun _ _ _ h => h) (Or.inl ⟨by rfl, ?_⟩) (by assumption) ?_
          rotate_left
          · intro w hSw; (try dsimp only at hSw); go_simp; try with_reducible rfl
          try simp only [put_simp]
          refine wpAnyH_ready (rs := [56]) (by kernel_rfl) (by simp) ?_
          refine AllReadyH.cons rfl (fun K hK => ?_) ?_
          · go_simp
            refine hK.out _ _ ?_ (fun hHeld => ?_)
            · (first | (simp [go_sem, *]; done))
            clear hK K
            try simp only [put_simp]
            refine wpAnyH_done (by kernel_rfl) ?_ _
            change wpList _ _ _ _ _ _
            go_upto_region 20 with (fail)
            clear hHeld
            obtain ⟨w9, ew9⟩ : ∃ w9, w9 = (wr.alloc (.cells #[.int .i64 (u0 + v0), .int .i64 (u1 + v1), .int .i64 (u2 + v2), .int .i64 (u3 + v3), .int .i64 (u4 + v4)] tCt)).drew := ⟨_, rfl⟩
            obtain ⟨K9, eK9⟩ : ∃ k, wr.heap.size = k := ⟨_, rfl⟩
            have hr9 : Rec w9 K9 tCt #[.int .i64 (u0 + v0), .int .i64 (u1 + v1), .int .i64 (u2 + v2), .int .i64 (u3 + v3), .int .i64 (u4 + v4)] := by rw [ew9, ← eK9]; exact Rec.new wr _ _
            have hb9 : Below wr.heap.size wr w9 := by rw [ew9]; exact ((Below.refl _ wr).alloc (Nat.le_refl _) _).drew
            have HB9 := hid (H.out.trans (hb9.mono H.out.size))
            have k0 := (hb9.cell (World.block_lt_of_cell? _ _ HCR.out.1)).trans HCR.out.1
            have k1 := (hb9.cell (World.block_lt_of_cell? _ _ HCR.out.2.1)).trans HCR.out.2.1
            have k2 := (hb9.cell (World.block_lt_of_cell? _ _ HCR.out.2.2.1)).trans HCR.out.2.2.1
            have k3 := (hb9.cell (World.block_lt_of_cell? _ _ HCR.out.2.2.2.1)).trans HCR.out.2.2.2.1
            have k4 := (hb9.cell (World.block_lt_of_cell? _ _ HCR.out.2.2.2.2)).trans HCR.out.2.2.2.2
            have n0 := Rec.cell hr9 0
            have n1 := Rec.cell hr9 1
            have n2 := Rec.cell hr9 2
            have n3 := Rec.cell hr9 3
            have n4 := Rec.cell hr9 4
            simp at n0 n1 n2 n3 n4
            simp only [ctAdd] at k0 k1 k2 k3 k4
            rw [← ew9, eK9]
            clear ew9 eK9 hr9 hb9 p0 p1 p2 p3 p4 q0 q1 q2 q3 q4 r0 r1 r2 r3 r4 hgp hgq
            refine wp_region_past (by kernel_rfl) (by kernel_rfl) ?_
            repeat (go_big_quiet_step ((fail)))
            refine wpQuiet_nil ?_
            rintro _ ⟨_, rfl⟩
            go_wp2_with fail
            go_roundw
            case rel => exact ⟨i + 1, by go_num, by omega, hid (HB9.out.trans ((w9.below_past _).mono HB9.out.size))⟩
            case measure => simp [intOf]; omega
          exact AllReadyH.nil
        · obtain rfl : i = 8 := by omega
          go_wp2_with fail
          go_ret
          exact Gives.mk rfl (HB6.out.trans (H.out.mono HB6.out.size))
theorem c_event_3 : Try.prog.cellsOf 3 = 1 := by kernel_rfl
theorem c_event_30 : Try.prog.cellsOf 30 = 1 := by kernel_rfl
theorem c_event : Try.prog.cellsOf 37 = 5 := by kernel_rfl
theorem rd_event {H : Type} {enc : TypeId × Value → H} {W : World} {cs : Array Value} (h : Rd enc Try.prog W 37 cs.toList) : ∃ x0 x1 x2 x3 x4 : Int, cs = #[.int .u64 x0, .int .i64 x1, .int .i64 x2, .int .i64 x3, .int .i64 x4] ∧ U64 x0 ∧ I64 x1 ∧ I64 x2 ∧ I64 x3 ∧ I64 x4 := by
  obtain ⟨c0, c1, c2, c3, c4, e⟩ := cs_five (h.len_struct Try.underlying37 c_event)
  rw [e] at h
  obtain ⟨x0, e0, w0⟩ := Rd.int (h.field Try.underlying37 0 30 0 1 rfl c_event_30) Try.underlying30
  obtain ⟨x1, e1, w1⟩ := Rd.int (h.field Try.underlying37 1 3 1 1 rfl c_event_3) Try.underlying3
  obtain ⟨x2, e2, w2⟩ := Rd.int (h.field Try.underlying37 2 3 2 1 rfl c_event_3) Try.underlying3
  obtain ⟨x3, e3, w3⟩ := Rd.int (h.field Try.underlying37 3 3 3 1 rfl c_event_3) Try.underlying3
  obtain ⟨x4, e4, w4⟩ := Rd.int (h.field Try.underlying37 4 3 4 1 rfl c_event_3) Try.underlying3
  simp at e0 e1 e2 e3 e4
  subst e0 e1 e2 e3 e4
  exact ⟨x0, x1, x2, x3, x4, arr_of e, u64_of w0, i64_of w1, i64_of w2, i64_of w3, i64_of w4⟩
theorem rd_ev {H : Type} {enc : TypeId × Value → H} {W : World} : ∀ cs : List Value, Rd enc Try.prog W 37 cs → ∃ x, cs = evV x ∧ True := fun cs hcs => by
  have hcs' : Rd enc Try.prog W 37 (cs.toArray).toList := by simpa using hcs
  obtain ⟨x0, x1, x2, x3, x4, e, _⟩ := rd_event hcs'
  refine ⟨⟨x0, x1, x2, x3, x4⟩, ?_, trivial⟩
  have : cs.toArray.toList = _ := congrArg Array.toList e
  simpa [evV] using this
theorem statParts_own : ownKnob Try.prog.godebug = none := by kernel_rfl
theorem statParts_laidOut : laidOutB Try.prog = true := by kernel_rfl
theorem statParts_types : ∀ t ∈ Try.f4.params.toList, Try.prog.readableRec t = true ∧ t < Try.prog.types.size := by
  rw [Try.params4]
  intro t ht
  simp only [List.mem_cons, List.not_mem_nil, or_false] at ht
  rcases ht with rfl | rfl
  · exact ⟨by kernel_rfl, of_decide_eq_true (by kernel_rfl)⟩
  · exact ⟨by kernel_rfl, of_decide_eq_true (by kernel_rfl)⟩
set_option maxRecDepth 100000 in
theorem statParts_lifted (os : Os) (started : os.Started) (H : Type) (enc : TypeId × Value → H) :
    ReturnsInHanded {} Try.checked os 4 .any (Rows.statPartsSpec.pre6 enc Try.prog Try.f4 Rows.statPartsRow.domain false) (Rows.statPartsSpec.post enc Try.prog Try.f4 false true false false) := by
  refine returnsInHanded_of_change (C := Try.checked) statParts_own started (by kernel_rfl) Try.func4
    (ChangeSpec.witness6 (enc := enc) (C := Try.checked) false ⟨#[], #[.slice none 0 0, .slice none 0 0], []⟩ 8 (by kernel_rfl) (by kernel_rfl) (by kernel_rfl) (by kernel_rfl)) ?_
  intro W base args ds gs before hval0 hW hcnd _
  have hval : ∀ (j : Nat) t v, Try.f4.params[j]? = some t → args[j]? = some v → Value.okWide Try.prog W .any base t v := hval0
  have hW' := hW
  obtain ⟨p, q, hA0, hV, hpq, hfz, hnd⟩ := hW
  have hA : DataW.TrodAll enc Try.prog W 0 (fun _ => true) true Try.f4.params.toList args.toList ds p := hA0
  rw [Try.params4] at hA hval
  obtain ⟨v0, vs0, d0, ds0, p0, q0, hargs, rfl, rfl, h0, r0⟩ := trodAll_cons hA
  obtain ⟨v1, vs1, d1, ds1, p1, q1, rfl, rfl, rfl, h1, r1⟩ := trodAll_cons r0
  obtain ⟨rfl, rfl, rfl⟩ := trodAll_nil r1
  obtain rfl : args = #[v0, v1] := by cases args; simp_all
  have k0 := hval 0 22 v0 rfl rfl
  have k1 := hval 1 22 v1 rfl rfl
  clear hA0 hval0 hval hcnd hfz hnd hpq hV hargs r1
  suffices hs : Calls Try.prog 4 #[v0, v1] W (Gives (.bool true) W) from hs.mono fun e W' ⟨he, x, hx⟩ => ⟨_, he, law_post statParts_laidOut hW' rfl rfl (by kernel_rfl) (by first | exact Try.underlying4 | rfl) statParts_types (hx ▸ W.below_past x)⟩
  clear hW'
  obtain ⟨A, ca, a, rfl, ha, _, hl, _⟩ := rd_tabC (f := evV) (c := 5) (K := fun _ => True) evV_length (by omega) (rd_slice Try.underlying22 k0 h0) Try.underlying22 c_event rd_ev
  obtain ⟨B, cb, b, rfl, hb, _, hl2, _⟩ := rd_tabC (f := evV) (c := 5) (K := fun _ => True) evV_length (by omega) (rd_slice Try.underlying22 k1 h1) Try.underlying22 c_event rd_ev
  exact StatParts_any A B ca cb _ _ a b rfl rfl hl hl2 W ha hb
theorem statParts_holds : Rows.StatPartsSaid :=
  OpenClaim.holds_of_wide 4 Try.f4 rfl rfl rfl rfl rfl rfl rfl ⟨rfl, rfl, rfl, rfl, rfl⟩ rfl rfl rfl rfl rfl (by kernel_rfl) Try.func4 (by kernel_rfl)
    (of_decide_eq_true (by kernel_rfl)) (by unfold Func.isWrapper; first | (rw [if_pos (by decide +kernel)]; kernel_rfl) | (rw [if_neg (by decide +kernel)]; exact ⟨rfl, rfl⟩))
    (fun os started H enc _ => statParts_lifted os started H enc)
end Go.Proofs.Ytdeejiiegmddaaa
