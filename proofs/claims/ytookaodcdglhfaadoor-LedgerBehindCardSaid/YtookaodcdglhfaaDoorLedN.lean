/-
  Layer 18: a new ledger, the product's and the document's. No condition.
-/
import Derived.Test.YtookaodcdglhfaaDoorLedB
import Derived.Test.YtookaodcdglhfaaDoorRefA
namespace Go.Proofs.YtookaodcdglhfaaDoor
open Go.RowKit
def newP (x : Int) : Pt := ⟨bringF x 1 16, 0, 0⟩
def newL (ws : List Int) (k : Nat) : List Pt := (ws.take k).map newP
theorem newL_length {ws : List Int} {k : Nat} (h : k ≤ ws.length) : (newL ws k).length = k := by simp [newL, Nat.min_eq_left h]
theorem newL_succ {ws : List Int} {k : Nat} (h : k < ws.length) : newL ws (k + 1) = newL ws k ++ [newP (atL ws k)] := by
  unfold newL
  rw [List.take_succ_eq_append_getElem h, List.map_append]
  simp [atL, List.getElem?_eq_getElem h]
def newF (ws : List Int) (s c : Int) : Lg := ⟨newL ws (min ws.length 8), bringF s 1 32, bringF c 1 32, 0, 0⟩
theorem newF_ok (ws : List Int) (s c : Int) : OkG (newF ws s c) := by
  refine ⟨?_, fun x hx => ?_, bring_in s 1 32 (by omega), bring_in c 1 32 (by omega), ⟨by show (0 : Int) ≤ 0; omega, by show (0 : Int) < 18446744073709551616; omega⟩, ?_⟩
  · show (newL ws _).length ≤ 8
    rw [newL_length (by omega)]; omega
  · have hx : x ∈ newL ws _ := hx
    simp only [newL, List.mem_map] at hx
    obtain ⟨y, _, rfl⟩ := hx
    have := bring_in y 1 16 (by omega)
    exact ⟨⟨by show (0 : Int) ≤ 0; omega, by show (0 : Int) < 18446744073709551616; omega⟩, this⟩
  · exact Nat.two_pow_pos _
theorem infoP : (Tryd.prog.info? tP).map (fun i => (i.zero, i.size, i.bytes)) = some (some (.agg #[.int .i64 0, .int .u64 0, .int .i64 0]), 3, 24) := by kernel_rfl
theorem infoQ : (Tryd.prog.info? tQ).map (fun i => (i.zero, i.size, i.bytes)) = some (some (.agg #[.int .i64 0, .int .u64 0, .int .i64 0, .bool false]), 4, 32) := by kernel_rfl
def natI : Value → Nat | .int _ z => z.toNat | _ => 0
set_option maxHeartbeats 4000000 in
theorem New_any (A : Option Addr) (ca n : Nat) (ws : List Int) (en : ws.length = n) (hca : n ≤ ca) (hn : n ≤ maxLen) (s c : Int) (w : World) (hc : Cells w A (i64s ws)) :
    Calls Tryd.prog 7 #[.slice A n ca, .int .i64 s, .int .i64 c] w (fun e w' => ∃ b, e = .returned (.pointer (some ⟨b, 0, none⟩)) ∧ LgAt w.heap.size w' b (newF ws s c) ∧ Below w.heap.size w w') := by
  have HS := hid (fun W => lbring_any s 32 (by omega) W)
  have HC := hid (fun W => lbring_any c 32 (by omega) W)
  have HW := hid (fun x W => lbring_any x 16 (by omega) W)
  have HE := hid en
  have HCE := hid hc
  unfold maxLen at hn
  obtain ⟨i0, hi, hz0, hz1, hz2⟩ := info_parts infoP
  have HI := hid hi
  clear en hc hi
  obtain ⟨w0, ew0⟩ : ∃ w0, w0 = w.alloc (.cells #[.slice none 0 0, .int .i64 (bringF s 1 32), .int .i64 (bringF c 1 32), .int .u64 0, .int .u64 0] tL) := ⟨_, rfl⟩
  have HR0 := hid (show Rec w0 w.heap.size tL #[.slice none 0 0, .int .i64 (bringF s 1 32), .int .i64 (bringF c 1 32), .int .u64 0, .int .u64 0] by rw [ew0]; exact Rec.new w tL _)
  have HB0 := hid (show Below w.heap.size w w0 by rw [ew0]; exact (Below.refl _ w).alloc (Nat.le_refl _) _)
  have EW0 := hid ew0
  clear ew0
  have h8 : (n : Int) ≤ 8 ∨ ¬ (n : Int) ≤ 8 := Classical.em _
  rcases h8 with h8 | h8
  all_goals
   go_enter Tryd.func7, Tryd.ntmps7
   go_wp2_with (first | (refine (HS.out _).mono ?_; rintro _ w9 ⟨rfl, h9⟩; rw [h9]) | (refine (HC.out _).mono ?_; rintro _ w8 ⟨rfl, h8⟩; rw [h8]))
   rw [← EW0.out]
   go_loopw [9, 22] (fun _ i wr => ∃ k : Nat, i = .int .i64 k ∧ k ≤ n ∧ k ≤ 8 ∧ LgAt w.heap.size wr w.heap.size ⟨newL ws k, bringF s 1 32, bringF c 1 32, 0, 0⟩ ∧ Below w.heap.size w wr) (fun _ i _ => 8 - natI i)
   case atStart =>
     refine ⟨0, rfl, Nat.zero_le _, Nat.zero_le _, ⟨Nat.le_refl _, none, 0, HR0.out, ?_⟩, HB0.out⟩
     exact ⟨rfl, .inl ⟨rfl, rfl⟩⟩
   case round =>
     obtain ⟨k, rfl, hkn, hk8, hL, hb⟩ := hrel
     by_cases hlt : k < n ∧ k < 8
     · obtain ⟨hk1, hk2⟩ := hlt
       obtain ⟨gw, ow, eA, c0⟩ := i64_at (HCE.out.keep (below_cell hb (Nat.le_refl _))) (k := k) (by rw [HE.out]; exact hk1)
       obtain ⟨A1, cp, hr, ho⟩ := hL.ex
       have q0 := Rec.cell hr 0
       have f0 := Rec.frozen hr 0
       have hlen := newL_length (ws := ws) (k := k) (by rw [HE.out]; exact hkn)
       rw [hlen] at hr ho
       simp [hlen] at q0
       have HSUC := hid (newL_succ (ws := ws) (k := k) (by rw [HE.out]; exact hk1))
       have hsz : w.heap.size < wr.heap.size := Rec.lt hr
       have HR := hid hr
       have HO := hid ho
       have HB := hid hb
       obtain ⟨x, ex⟩ : ∃ x, atL ws k = x := ⟨_, rfl⟩
       rw [ex] at c0 HSUC
       obtain ⟨y, ey⟩ : ∃ y, bringF x 1 16 = y := ⟨_, rfl⟩
       have HX := hid (ey ▸ HW.out x)
       have HP := hid (show newP x = ⟨y, 0, 0⟩ by unfold newP; rw [ey])
       subst eA
       clear hr ho hb hL hlen ex ey
       go_wp2_with fail
       go_region_law ((first | (refine step_pushB rfl (.tmp 30) (.tmp 34) 50 rfl tP i0 (.agg #[.int .i64 0, .int .u64 0, .int .i64 0]) 3 24 Tryd.underlying50 HI.out hz0 hz1 hz2 rfl (by decide) w.heap.size ?_ (.slice A1 k cp) k (tab ptV (newL ws k)) ?_ HO.out.drew _ #[.int .i64 y, .int .u64 0, .int .i64 0] ?_ rfl rfl ?_ ?_ ?_ ?_; (· exact Nat.le_of_lt hsz); (· rfl); (· simp [go_sem]); (· simp [Value.oneCell']); (· omega); (· unfold maxLen; omega); intro w3 g3 c3 ho3 hg3 _; have HO3 := hid ho3; have HG3 := hid hg3; have HR3 := hid (Rec.grown (Rec.drew HR.out) HO.out.drew hg3 (by decide)); have f13 : w3.frozen? ⟨w.heap.size, 0, none⟩ = false := Rec.frozen HR3.out 0; have hlt3 := Rec.lt HR3.out; have d13 : w3.cell? ⟨w.heap.size, 0, none⟩ = some (.slice A1 k cp) := (by rw [Rec.cell HR3.out]; simp); clear ho3 hg3) | (go_simp; refine (HX.out _).mono ?_; rintro _ w7 ⟨rfl, h7⟩; rw [h7]; clear h7 w7)))
       all_goals
        go_wp2
        go_roundw
        case rel =>
          refine ⟨k + 1, by go_num, by omega, by omega, ?_, ?_⟩
          · have l1 := newL_length (ws := ws) (k := k + 1) (by rw [HE.out]; omega)
            refine ⟨Nat.le_refl _, some ⟨g3, 0, none⟩, c3, ?_, ?_⟩
            · have := Rec.set HR3.out 0 (.slice (some ⟨g3, 0, none⟩) (k + 1) c3)
              simp only [l1]
              simpa using this
            · have := own_setB HO3.out HR3.out (by decide) 0 (.slice (some ⟨g3, 0, none⟩) (k + 1) c3)
              simp only [l1]
              rw [HSUC.out, HP.out, ← tab_snoc]
              exact this
          · exact ((HB.out.drew).grown HG3.out (Nat.le_of_lt hsz) (fun k hk => (HO.out.drew.lt k hk).1)).setCell (p := ⟨w.heap.size, 0, none⟩) (Nat.le_refl _) _
        case measure => simp [natI]; omega
     · have hk : k = min n 8 := by omega
       have HN := hid (show newF ws s c = ⟨newL ws k, bringF s 1 32, bringF c 1 32, 0, 0⟩ by unfold newF; rw [HE.out, hk])
       have hkk : n ≤ k ∨ 8 ≤ k := by omega
       first
         | (have hk1 : n ≤ k := by omega
            clear hk hkk hlt
            go_wp2
            go_ret
            exact ⟨_, rfl, by rw [HN.out]; exact hL, hb⟩)
         | (have hk1 : 8 ≤ k := by omega
            clear hk hkk hlt
            go_wp2
            go_ret
            exact ⟨_, rfl, by rw [HN.out]; exact hL, hb⟩)
end Go.Proofs.YtookaodcdglhfaaDoor
