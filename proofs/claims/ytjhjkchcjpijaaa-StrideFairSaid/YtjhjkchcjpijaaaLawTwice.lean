/-
  Layer 37's StrideTwice: of equal weights each has its turn once in each row; heavier ones have no fewer, but for one. No condition.
-/
import Derived.Test.YtjhjkchcjpijaaaStrM
import Derived.Test.YtjhjkchcjpijaaaAwake
import Derived.Test.YtjhjkchcjpijaaaAppC
import Derived.Test.YtjhjkchcjpijaaaPushB
import Derived.BigQuiet
namespace Go.Proofs.Ytjhjkchcjpijaaa
open Go Go.RowKit Go.Shelf Go.ChangeShapes Go.WideShapes Go.ChangeAt HpI
def u8s (l : List Int) : List Value := l.map (Value.int .u8)
theorem u8_at {w : World} {A : Option Addr} {l : List Int} (h : Cells w A (u8s l)) {k : Nat} (hk : k < l.length) : ∃ b off : Nat, A = some ⟨b, off, none⟩ ∧ w.cell? ⟨b, off + k, none⟩ = some (.int .u8 (atL l k)) := by
  obtain ⟨b, off, e, hc⟩ := h.at (k := k) (by simpa [u8s] using hk)
  refine ⟨b, off, e, ?_⟩
  rw [hc]
  simp [u8s, atL, List.getElem?_eq_getElem hk]
/-- The weights of numbers. -/
def upL (l : List Int) : List Int := l.map fun x => 1 + x
theorem up_length (l : List Int) : (upL l).length = l.length := by simp [upL]
theorem up_at {l : List Int} {k : Nat} (h : k < l.length) : atL (upL l) k = 1 + atL l k := by simp [upL, atL, h]
theorem up_take {l : List Int} {k : Nat} (h : k < l.length) : (upL l).take (k + 1) = (upL l).take k ++ [1 + atL l k] := by
  rw [List.take_succ_eq_append_getElem (by rw [up_length]; exact h)]
  simp [upL, atL, h]
theorem bringW_id {W : List Int} (hl : W.length ≤ 16) (h : ∀ j, j < W.length → 1 ≤ atL W j ∧ atL W j ≤ 256) : bringW W = W := by
  apply List.ext_getElem?
  intro i
  simp only [bringW, List.getElem?_map]
  rw [List.take_of_length_le hl]
  by_cases hi : i < W.length
  · have := h i hi
    simp only [atL, List.getElem?_eq_getElem hi, Option.getD_some] at this
    rw [List.getElem?_eq_getElem hi]
    simp only [Option.map_some, Option.some.injEq]
    unfold bringF
    rw [if_neg (by omega), if_neg (by omega)]
  · rw [List.getElem?_eq_none (by omega)]; rfl
theorem firstF_id {W : List Int} (hl : W.length ≤ 16) (h0 : 0 < W.length) (h : ∀ j, j < W.length → 1 ≤ atL W j ∧ atL W j ≤ 256) {y : Int} {k : Nat} (hy : y = k) (hk : k ≤ 4096) : firstF W y = turnsF W k := by
  unfold firstF
  rw [if_neg (by intro e; rw [e] at h0; simp at h0), bringW_id hl h]
  congr 1
  unfold clampN
  omega
theorem sharesF_id {W : List Int} (hl : W.length ≤ 16) (h0 : 0 < W.length) (h : ∀ j, j < W.length → 1 ≤ atL W j ∧ atL W j ≤ 256) {y : Int} {k : Nat} (hy : y = k) (hk : k ≤ 4096) : sharesF W y = cK W k := by
  unfold sharesF cK
  rw [bringW_id hl h, firstF_id hl h0 h hy hk]
theorem up_in {l : List Int} (hU : ∀ x ∈ l, 0 ≤ x ∧ x ≤ 255) {j : Nat} (hj : j < l.length) : 0 ≤ atL l j ∧ atL l j ≤ 255 := by
  unfold atL
  rw [List.getElem?_eq_getElem hj]
  exact hU _ (List.getElem_mem _)
theorem rep_at {n j : Nat} {v : Int} (h : j < n) : atL (List.replicate n v) j = v := by simp [atL, h]
/-- The two rows between two rounds. -/
structure TwI (w : World) (k : Nat) (p q : List Int) (v5 v6 : Value) (U : World) : Prop where
  below : Below w.heap.size w U
  o5 : U.ownsRow w.heap.size 3 1 v5 k (i64s p)
  o6 : U.ownsRow w.heap.size 3 1 v6 k (i64s q)
  ap : Apart v5 v6
theorem own_apart {w w1 : World} {B n : Nat} {e : TypeId} {v v' : Value} {xs : List Value} (h : w.ownsRow B e 1 v n xs) (hg : w.grownBy w1 v'.ownBlock) (ha : Apart v v') : w1.ownsRow B e 1 v n xs := by
  refine h.kept hg ?_
  rcases ha with h1 | h1 | h1
  · exact .inl h1
  · cases e : v.ownBlock with
    | none => exact .inl rfl
    | some g => exact .inr (by rw [h1]; simp)
  · exact .inr h1
theorem below_grown {w U w1 : World} {v : Value} {n : Nat} {e : TypeId} {xs : List Value} (hb : Below w.heap.size w U) (ho : U.ownsRow w.heap.size e 1 v n xs) (hg : U.grownBy w1 v.ownBlock) : Below w.heap.size w w1 :=
  hb.trans ⟨hg.os, hg.tape, hg.output, hg.size, fun q hq => hg.block q (by have := hb.size; omega) (fun e => by have := (ho.lt q e.symm).1; omega)⟩
set_option maxRecDepth 100000 in
set_option maxHeartbeats 8000000 in
theorem StrideTwice_any (A : Option Addr) (ca n : Nat) (l : List Int) (en : l.length = n) (hU : ∀ x ∈ l, 0 ≤ x ∧ x ≤ 255) (y : Int) (hy : 0 ≤ y ∧ y ≤ 65535) (w : World) (hc : Cells w A (u8s l)) :
    Calls Try.prog 4 #[.slice A n ca, .int .u16 y] w (Gives (.bool true) w) := by
  obtain ⟨i0, hi, hz0, hz1, hz2⟩ := info_parts info_i64
  have AWK := hid awake_any
  have hcs : 16 < n ∨ n = 0 ∨ (0 < n ∧ n ≤ 16 ∧ 300 < y) ∨ (0 < n ∧ n ≤ 16 ∧ y ≤ 300) := by omega
  rcases hcs with h1 | rfl | ⟨h1, h2, h3⟩ | ⟨h1, h2, h3⟩
  · clear en hc hU
    go_enter Try.func4, Try.ntmps4
    go_wp2_with (go_at_call 6; refine (AWK.out _).mono ?_; rintro _ _ ⟨rfl, x1, rfl⟩)
    go_ret
    exact Gives.mk rfl (World.below_past _ _)
  · clear en hc hU
    go_enter Try.func4, Try.ntmps4
    go_wp2_with (go_at_call 6; refine (AWK.out _).mono ?_; rintro _ _ ⟨rfl, x1, rfl⟩)
    go_ret
    exact Gives.mk rfl (World.below_past _ _)
  · clear en hc hU
    have d1 : decide (16 < (n : Int)) = false := by simp; omega
    have d1' : decide (16 < n) = false := by simp; omega
    have d2 : ((n : Int) == 0) = false := by simp; omega
    have d2' : (n == 0) = false := by simp; omega
    have d3 : decide (300 < y) = true := by simp; omega
    go_enter Try.func4, Try.ntmps4
    go_wp2_with (go_at_call 6; refine (AWK.out _).mono ?_; rintro _ _ ⟨rfl, x1, rfl⟩)
    go_ret
    exact Gives.mk rfl (World.below_past _ _)
  · obtain ⟨N, eN⟩ : ∃ N : Nat, y = N := ⟨y.toNat, by omega⟩
    have hN : N ≤ 300 := by omega
    have HX := hid (fun j (hj : j < n) => up_in hU (j := j) (by rw [en]; exact hj))
    have hW : ∀ j, j < (upL l).length → 1 ≤ atL (upL l) j ∧ atL (upL l) j ≤ 256 := fun j hj => by
      rw [up_length, en] at hj
      rw [up_at (by rw [en]; exact hj)]
      have := HX.out j hj
      omega
    have hWl : (upL l).length = n := by rw [up_length, en]
    have hSh := sharesF_id (W := upL l) (by omega) (by omega) hW eN (by omega)
    have HLAW := hid (fun i j (hi : i < n) (hj : j < n) => heavy_law (W := upL l) (by omega) hW (k := N) (by omega) (i := i) (j := j) (by omega) (by omega))
    obtain ⟨x0, ex0⟩ : ∃ x0, atL l 0 = x0 := ⟨_, rfl⟩
    have hx0 := HX.out 0 h1
    rw [ex0] at hx0
    have hSW : ∀ j, j < (List.replicate n (1 + x0)).length → 1 ≤ atL (List.replicate n (1 + x0)) j ∧ atL (List.replicate n (1 + x0)) j ≤ 256 := fun j hj => by
      rw [List.length_replicate] at hj
      rw [rep_at hj]
      omega
    have hFi := firstF_id (W := List.replicate n (1 + x0)) (by simp; omega) (by simp; omega) hSW eN (by omega)
    have HTURN := hid (fun k (hk : k ≤ 300) => by
      have := (same_cnt (W := List.replicate n (1 + x0)) (v := 1 + x0) (by simp; omega) (by omega) (fun j hj => rep_at (by simpa using hj)) k (by omega)).2
      rwa [List.length_replicate] at this)
    have HTK := hid (fun k (hk : k < n) => up_take (l := l) (k := k) (by rw [en]; exact hk))
    have HUP := hid (fun k (hk : k < n) => up_at (l := l) (k := k) (by rw [en]; exact hk))
    obtain ⟨W, eW⟩ : ∃ W, upL l = W := ⟨_, rfl⟩
    obtain ⟨S, eS⟩ : ∃ S, List.replicate n (1 + x0) = S := ⟨_, rfl⟩
    have HST := hid (show ∀ k, k < n → S.take (k + 1) = S.take k ++ [1 + x0] from fun k hk => by
      rw [← eS, List.take_replicate, List.take_replicate, Nat.min_eq_left (by omega), Nat.min_eq_left (by omega), List.replicate_succ'])
    have hSl : S.length = n := by rw [← eS]; simp
    rw [eW] at hSh HLAW hWl HTK HUP
    rw [eS] at hFi HTURN
    have HWL := hid hWl
    have HSL := hid hSl
    have HF : Hid (∀ w' A' c', n ≤ c' → Cells w' A' (i64s S) → Calls Try.prog 9 #[.slice A' n c', .int .i64 y] w' (GivesOwn 3 1 N (i64s (turnsF S N)) w')) := hid fun w' A' c' hc' h => by
      have := First_any A' n c' S hSl hc' (by unfold maxLen; omega) w' h y
      rwa [hFi, turns_length] at this
    have HS : Hid (∀ w' A' c', n ≤ c' → Cells w' A' (i64s W) → Calls Try.prog 10 #[.slice A' n c', .int .i64 y] w' (GivesOwn 3 1 n (i64s (cK W N)) w')) := hid fun w' A' c' hc' h => by
      have := Shares_any A' n c' W hWl hc' (by unfold maxLen; omega) w' h y
      rwa [hSh, show (cK W N).length = n by unfold cK; rw [cntL_length]; exact hWl] at this
    have HCK := hid (fun j => cK_in W N j)
    have HCL := hid (show (cK W N).length = n by unfold cK; rw [cntL_length]; exact hWl)
    have HEN := hid en
    have HC := hid hc
    have HEX := hid ex0
    have HEY := hid eN
    have d1 : decide (16 < (n : Int)) = false := by simp; omega
    have d1' : decide (16 < n) = false := by simp; omega
    have d2 : ((n : Int) == 0) = false := by simp; omega
    have d2' : (n == 0) = false := by simp; omega
    have d3 : decide (300 < y) = false := by simp; omega
    have e0 : IntKind.i64.wrap y = y := by rw [IntKind.wrap_i64]; omega
    clear en hc hU hW hSW hSh hFi eW eS ex0 hWl hSl eN
    go_enter Try.func4, Try.ntmps4
    go_upto_region 7 with (go_at_call 6; refine (AWK.out _).mono ?_; rintro _ _ ⟨rfl, x1, rfl⟩)
    obtain ⟨w1, ew1⟩ : ∃ w1, w1 = w.past x1 := ⟨_, rfl⟩
    have HI0 : Hid (TwI w 0 (W.take 0) (S.take 0) (.slice none 0 0) (.slice none 0 0) w1) := hid ⟨by rw [ew1]; exact w.below_past x1, World.ownsRow_nil _ _ _ _, World.ownsRow_nil _ _ _ _, .inl rfl⟩
    rw [← ew1]
    clear ew1
    go_loopw [5, 6, 30] (fun v5 v6 i wr => ∃ k : Nat, i = .int .i64 k ∧ k ≤ n ∧ Hid (TwI w k (W.take k) (S.take k) v5 v6 wr)) (fun _ _ i _ => n - natC i)
    case atStart => exact ⟨0, rfl, by omega, HI0⟩
    case round =>
      clear HI0
      obtain ⟨k, rfl, hk, HI⟩ := hrel
      obtain ⟨A5, c5, rfl⟩ := own_shape HI.out.o5
      obtain ⟨A6, c6, rfl⟩ := own_shape HI.out.o6
      by_cases hlt : k < n
      · have hcw := HC.out.below HI.out.below
        obtain ⟨g, off, rfl, ck⟩ := u8_at hcw (k := k) (by rw [HEN.out]; exact hlt)
        obtain ⟨g', off', eA, ck0⟩ := u8_at hcw (k := 0) (by rw [HEN.out]; exact h1)
        injection eA with eA
        injection eA with ea eb
        subst ea; subst eb
        rw [HEX.out] at ck0
        have hx := HX.out k hlt
        have hT := HTK.out k hlt
        have hS := HST.out k hlt
        obtain ⟨x, ex⟩ : ∃ x, atL l k = x := ⟨_, rfl⟩
        rw [ex] at ck hx hT
        have e1 : IntKind.i64.wrap x = x := by rw [IntKind.wrap_i64]; omega
        have e2 : IntKind.i64.wrap (1 + x) = 1 + x := by rw [IntKind.wrap_i64]; omega
        have e3 : IntKind.i64.wrap x0 = x0 := by rw [IntKind.wrap_i64]; omega
        have e4 : IntKind.i64.wrap (1 + x0) = 1 + x0 := by rw [IntKind.wrap_i64]; omega
        have HT := hid hT
        have HSS := hid hS
        have hBw : w.heap.size ≤ wr.heap.size := HI.out.below.size
        have HCW := hid hcw
        clear hT hS ex hcw
        go_upto_region 10 with (at_builtin; refine wpList_pushB rfl (.tmp 34) (.tmp 38) 22 rfl 3 i0 (.int .i64 0) 1 8 Try.underlying22 hi hz0 hz1 hz2 rfl (by decide) w.heap.size hBw (.slice A5 k c5) k (i64s (W.take k)) rfl HI.out.o5 _ #[.int .i64 (1 + x)] rfl rfl rfl (by simp [Value.oneCell']) (by omega) (by unfold maxLen; omega) ?_; intro w2 g2 cap2 ho2 hg2 hap2)
        have HB2 := hid (below_grown HI.out.below HI.out.o5 hg2)
        have HO6 := hid (own_apart HI.out.o6 hg2 HI.out.ap.symm)
        have HO5 := hid (show w2.ownsRow w.heap.size 3 1 (.slice (some ⟨g2, 0, none⟩) (k + 1) cap2) (k + 1) (i64s (W.take (k + 1))) by rw [HT.out, ← i64s_snoc]; exact ho2)
        have HAP2 := hid (hap2 _ HI.out.ap.symm (fun q hq => (HI.out.o6.lt q hq).2))
        have ck0' : w2.cell? ⟨g, off, none⟩ = some (.int .u8 x0) := by
          have := (HC.out.below HB2.out).at (k := 0) (by simp [u8s]; rw [HEN.out]; exact h1)
          obtain ⟨b9, o9, e9, h9⟩ := this
          injection e9 with e9
          injection e9 with ea eb
          subst ea; subst eb
          rw [Nat.add_zero] at h9
          rw [h9]
          have h8 := HEX.out
          unfold atL at h8
          rw [List.getElem?_eq_getElem (by rw [HEN.out]; exact h1)] at h8
          simp only [Option.getD_some] at h8
          simp [u8s, h8]
        have hB2 : w.heap.size ≤ w2.heap.size := HB2.out.size
        clear ho2 hg2 hap2 ck ck0
        go_wp2_with (at_builtin; refine wpList_pushB rfl (.tmp 40) (.tmp 46) 22 rfl 3 i0 (.int .i64 0) 1 8 Try.underlying22 hi hz0 hz1 hz2 rfl (by decide) w.heap.size hB2 (.slice A6 k c6) k (i64s (S.take k)) rfl HO6.out _ #[.int .i64 (1 + x0)] rfl rfl rfl (by simp [Value.oneCell']) (by omega) (by unfold maxLen; omega) ?_; intro w3 g3 cap3 ho3 hg3 hap3; have HN : Hid (TwI w (k + 1) (W.take (k + 1)) (S.take (k + 1)) (.slice (some ⟨g2, 0, none⟩) (k + 1) cap2) (.slice (some ⟨g3, 0, none⟩) (k + 1) cap3) w3) := hid ⟨below_grown HB2.out HO6.out hg3, own_apart HO5.out hg3 HAP2.out.symm, by rw [HSS.out, ← i64s_snoc]; exact ho3, hap3 _ HAP2.out.symm (fun q hq => (HO5.out.lt q hq).2)⟩; clear ho3 hg3 hap3)
        go_roundw
        case rel => exact ⟨k + 1, by go_num, by omega, HN⟩
        case measure => simp [natC]; omega
      · obtain rfl : k = n := by omega
        have hI := HI.out
        rw [List.take_of_length_le (by rw [HWL.out]; exact Nat.le_refl _), List.take_of_length_le (by rw [HSL.out]; exact Nat.le_refl _)] at hI
        have hf5 := own_fits hI.o5
        have hf6 := own_fits hI.o6
        have HFC := hid (HF.out wr A6 c6 hf6 (Cells.of_own hI.o6))
        have HI2 := hid hI
        clear hI HI HF
        go_upto_region 13 with (go_at_call 9; refine HFC.out.mono ?_; rintro _ w5 ⟨A7, c7, rfl, hb5, ho7⟩)
        have HB5 := hid (HI2.out.below.trans (hb5.mono HI2.out.below.size))
        have HC5 := hid ((Cells.of_own HI2.out.o5).below hb5)
        have HO7 := hid (Cells.of_own ho7)
        clear hb5 ho7 HFC HI2
        go_loopw [54] (fun i wq => ∃ j : Nat, i = .int .i64 j ∧ j ≤ N ∧ wq = w5) (fun i _ => N - natC i)
        case atStart => exact ⟨0, rfl, by omega, rfl⟩
        case round =>
          obtain ⟨j, rfl, hj, rfl⟩ := hrel
          by_cases hlt2 : j < N
          · obtain ⟨g7, o7, rfl, cj⟩ := i64_at HO7.out (k := j) (by rw [turns_length]; exact hlt2)
            have hat : atL (turnsF S N) j = ((j % k : Nat) : Int) := by
              rw [← HTURN.out j (by omega)]
              simp [atL, turnsF, hlt2]
            rw [hat] at cj
            have hm : Int.tmod (j : Int) (k : Int) = ((j % k : Nat) : Int) := by rw [Int.tmod_eq_emod_of_nonneg (by omega)]; simp
            obtain ⟨r, er⟩ : ∃ r, j % k = r := ⟨_, rfl⟩
            rw [er] at cj hm
            have k0 : ¬ (k : Int) = 0 := by omega
            have hr : r < k := by rw [← er]; exact Nat.mod_lt _ h1
            have ew : IntKind.i64.wrap (r : Int) = r := by rw [IntKind.wrap_i64]; omega
            clear hat er
            go_wp2_with fail
            go_roundw
            case rel => exact ⟨j + 1, by go_num, by omega, by first | rfl | trivial⟩
            case measure => simp [natC]; omega
          · obtain rfl : j = N := by omega
            have HSC := hid (HS.out _ A5 c5 hf5 HC5.out)
            clear HS HO7
            go_upto_region 20 with (go_at_call 10; refine HSC.out.mono ?_; rintro _ w6 ⟨A8, c8, rfl, hb6, ho8⟩)
            have HB6 := hid (HB5.out.trans (hb6.mono HB5.out.size))
            have HC6 := hid (HC5.out.below hb6)
            have HO8 := hid (Cells.of_own ho8)
            clear hb6 ho8 HSC
            go_loopw [72] (fun i wq => ∃ (p : Nat) (x : Past), i = .int .i64 p ∧ p ≤ k ∧ wq = w6.past x) (fun i _ => k - natC i)
            case atStart => exact ⟨0, ⟨#[], w6.drawn⟩, rfl, by omega, World.past_refl w6⟩
            case round =>
              obtain ⟨p, xp, rfl, hp, rfl⟩ := hrel
              by_cases hltp : p < k
              · go_upto_region 23 with (fail)
                go_loopw [77] (fun i wq => ∃ (q : Nat) (x : Past), i = .int .i64 q ∧ q ≤ k ∧ wq = w6.past x) (fun i _ => k - natC i)
                case atStart => exact ⟨0, xp, rfl, by omega, rfl⟩
                case round =>
                  obtain ⟨q, xq2, rfl, hq, rfl⟩ := hrel
                  by_cases hltq : q < k
                  · obtain ⟨ga, oa, rfl, ca1⟩ := i64_at HC6.out (k := p) (by rw [HWL.out]; exact hltp)
                    obtain ⟨gb, ob, eb2, ca2⟩ := i64_at HC6.out (k := q) (by rw [HWL.out]; exact hltq)
                    injection eb2 with eb2
                    injection eb2 with ea eb
                    subst ea; subst eb
                    obtain ⟨gc, oc, rfl, cb1⟩ := i64_at HO8.out (k := p) (by rw [HCL.out]; exact hltp)
                    obtain ⟨gd, od, ed2, cb2⟩ := i64_at HO8.out (k := q) (by rw [HCL.out]; exact hltq)
                    injection ed2 with ed2
                    injection ed2 with ea eb
                    subst ea; subst eb
                    have hlaw := HLAW.out p q hltp hltq
                    have r1 := HCK.out p
                    have r2 := HCK.out q
                    obtain ⟨u1, eu1⟩ : ∃ u, atL W p = u := ⟨_, rfl⟩
                    obtain ⟨u2, eu2⟩ : ∃ u, atL W q = u := ⟨_, rfl⟩
                    obtain ⟨s1, es1⟩ : ∃ u, atL (cK W j) p = u := ⟨_, rfl⟩
                    obtain ⟨s2, es2⟩ : ∃ u, atL (cK W j) q = u := ⟨_, rfl⟩
                    rw [eu1] at ca1 hlaw
                    rw [eu2] at ca2 hlaw
                    rw [es1] at cb1 hlaw r1
                    rw [es2] at cb2 hlaw r2
                    have ew : IntKind.i64.wrap (s2 - 1) = s2 - 1 := by rw [IntKind.wrap_i64]; omega
                    clear eu1 eu2 es1 es2
                    by_cases hge : u2 ≤ u1
                    · have dg : decide (u2 ≤ u1) = true := by simp; omega
                      have dl : decide (s1 < s2 - 1) = false := by have := hlaw hge; simp; omega
                      clear hlaw hge
                      go_wp2_with fail
                      refine wp_region_past (by kernel_rfl) (by kernel_rfl) ?_
                      repeat (go_big_quiet_step ((first | (go_at_call 9; first | with_reducible exact Calls.in_past (True) | with_reducible exact Calls.in_past2 (True)) | (go_at_call 9; first | exact Calls.in_past (True) | exact Calls.in_past2 (True)))))
                      refine wpQuiet_nil ?_
                      rintro _ ⟨_, rfl⟩
                      go_wp2_with fail
                      go_roundw
                      case rel => exact ⟨q + 1, _, by go_num, by omega, by first | rfl | trivial⟩
                      case measure => simp [natC]; omega
                    · have dg : decide (u2 ≤ u1) = false := by simp; omega
                      clear hlaw hge
                      go_wp2_with fail
                      refine wp_region_past (by kernel_rfl) (by kernel_rfl) ?_
                      repeat (go_big_quiet_step ((first | (go_at_call 9; first | with_reducible exact Calls.in_past (True) | with_reducible exact Calls.in_past2 (True)) | (go_at_call 9; first | exact Calls.in_past (True) | exact Calls.in_past2 (True)))))
                      refine wpQuiet_nil ?_
                      rintro _ ⟨_, rfl⟩
                      go_wp2_with fail
                      go_roundw
                      case rel => exact ⟨q + 1, _, by go_num, by omega, by first | rfl | trivial⟩
                      case measure => simp [natC]; omega
                  · obtain rfl : q = k := by omega
                    go_wp2_with fail
                    go_roundw
                    case rel => exact ⟨p + 1, _, by go_num, by omega, by first | rfl | trivial⟩
                    case measure => simp [natC]; omega
              · obtain rfl : p = k := by omega
                go_wp2_with fail
                go_ret
                exact Gives.mk rfl (HB6.out.trans ((w6.below_past xp).mono HB6.out.size))
theorem cs_u8t : Try.prog.cellsOf 5 = 1 := by kernel_rfl
theorem strideTwice_own : ownKnob Try.prog.godebug = none := by kernel_rfl
theorem strideTwice_laidOut : laidOutB Try.prog = true := by kernel_rfl
theorem strideTwice_types : ∀ t ∈ Try.f4.params.toList, Try.prog.readableRec t = true ∧ t < Try.prog.types.size := by
  rw [Try.params4]
  intro t ht
  simp only [List.mem_cons, List.not_mem_nil, or_false] at ht
  rcases ht with rfl | rfl
  · exact ⟨by kernel_rfl, of_decide_eq_true (by kernel_rfl)⟩
  · exact ⟨by kernel_rfl, of_decide_eq_true (by kernel_rfl)⟩
set_option maxRecDepth 100000 in
theorem strideTwice_lifted (os : Os) (started : os.Started) (H : Type) (enc : TypeId × Value → H) :
    ReturnsInHanded {} Try.checked os 4 .any (Rows.strideTwiceSpec.pre6 enc Try.prog Try.f4 Rows.strideTwiceRow.domain false) (Rows.strideTwiceSpec.post enc Try.prog Try.f4 false true false false) := by
  refine returnsInHanded_of_change (C := Try.checked) strideTwice_own started (by kernel_rfl) Try.func4
    (ChangeSpec.witness6 (enc := enc) (C := Try.checked) false ⟨#[], #[.slice none 0 0, .int .u16 0], []⟩ 8 (by kernel_rfl) (by kernel_rfl) (by kernel_rfl) (by kernel_rfl)) ?_
  intro W base args ds gs before hval0 hW hcnd _
  have hval : ∀ (j : Nat) t v, Try.f4.params[j]? = some t → args[j]? = some v → Value.okWide Try.prog W .any base t v := hval0
  have hW' := hW
  obtain ⟨p, q, hA0, hV, hpq, hfz, hnd⟩ := hW
  have hA : DataW.TrodAll enc Try.prog W 0 (fun _ => true) true Try.f4.params.toList args.toList ds p := hA0
  rw [Try.params4] at hA hval
  obtain ⟨v0, vs0, d0, ds0, p0, q0, hargs, rfl, rfl, h0, r0⟩ := trodAll_cons hA
  obtain ⟨v1, vs1, d1, ds1, p1, q1, rfl, rfl, rfl, h1, r1⟩ := trodAll_cons r0
  obtain ⟨rfl, rfl, rfl⟩ := trodAll_nil r1
  obtain rfl : args = #[v0, v1] := by cases args; simp_all
  have k0 := hval 0 29 v0 rfl rfl
  have k1 := hval 1 30 v1 rfl rfl
  clear hA0 hval0 hval hcnd hfz hnd hpq hV hargs r1
  suffices hs : Calls Try.prog 4 #[v0, v1] W (Gives (.bool true) W) from hs.mono fun e W' ⟨he, x, hx⟩ => ⟨_, he, law_post strideTwice_laidOut hW' rfl rfl (by kernel_rfl) (by first | exact Try.underlying4 | rfl) strideTwice_types (hx ▸ W.below_past x)⟩
  clear hW'
  obtain ⟨A, ca, l, rfl, ha, hK, hl⟩ := rd_ints_row (rd_slice Try.underlying29 k0 h0) Try.underlying29 Try.underlying5 cs_u8t (K := U8) (fun _ h => u8_of h)
  obtain ⟨x1, rfl, _, _, w1⟩ := open_int Try.underlying30 k1 h1
  exact StrideTwice_any A ca _ l rfl (fun x hx => by have := hK x hx; unfold U8 at this; omega) x1 (by have := u16_of w1; unfold U16 at this; omega) W ha
theorem strideTwice_holds : Rows.StrideTwiceSaid :=
  OpenClaim.holds_of_wide 4 Try.f4 rfl rfl rfl rfl rfl rfl rfl ⟨rfl, rfl, rfl, rfl, rfl⟩ rfl rfl rfl rfl rfl (by kernel_rfl) Try.func4 (by kernel_rfl)
    (of_decide_eq_true (by kernel_rfl)) (by unfold Func.isWrapper; first | (rw [if_pos (by decide +kernel)]; kernel_rfl) | (rw [if_neg (by decide +kernel)]; exact ⟨rfl, rfl⟩))
    (fun os started H enc _ => strideTwice_lifted os started H enc)
end Go.Proofs.Ytjhjkchcjpijaaa
