/-
  Layer 25: the document's ends, and waited. No condition.
-/
import Derived.Test.YtdeejiiegmddaaaStL
import Derived.BigQuiet
namespace Go.Proofs.Ytdeejiiegmddaaa
open Go Go.RowKit
def endsF (e : Ev) (lock : Int) : Bool := ((e.kind == 4 || e.kind == 8) && e.lock == lock) || e.kind == 11
/-- From a block on. -/
def wlF (x lock frm : Int) : List Ev → Int
  | [] => 0
  | e :: r => if e.task = x ∧ endsF e lock = true then subF e.time frm else wlF x lock frm r
def waitedF (l : List Ev) (k : Nat) : Int := wlF (evA l k).task (evA l k).lock (evA l k).time (l.drop (k + 1))
theorem drop_ev {l : List Ev} {k : Nat} (h : k < l.length) : l.drop k = evA l k :: l.drop (k + 1) := by
  rw [List.drop_eq_getElem_cons h]
  simp [evA, List.getElem?_eq_getElem h]
set_option maxRecDepth 100000 in
set_option maxHeartbeats 4000000 in
theorem ends_any (e : Ev) (lock : Int) (w : World) : Calls Try.prog 36 #[.agg (evV e).toArray, .int .i64 lock] w (Gives (.bool (endsF e lock)) w) := by
  obtain ⟨et, ek, ea, el, en⟩ := e
  obtain ⟨s, es⟩ : ∃ s, w.heap.size = s := ⟨_, rfl⟩
  obtain ⟨w1, ew1⟩ : ∃ w1, w1 = w.alloc (.cells (evV ⟨et, ek, ea, el, en⟩).toArray tEv) := ⟨_, rfl⟩
  have hr : Rec w1 s tEv (evV ⟨et, ek, ea, el, en⟩).toArray := by rw [ew1, ← es]; exact Rec.new w _ _
  have d1 := Rec.cell hr 1
  have d3 := Rec.cell hr 3
  simp [evV] at d1 d3
  have hl := hr.lt
  have HB := hid (show Below w.heap.size w w1 from by rw [ew1]; exact (Below.refl _ w).alloc (Nat.le_refl _) _)
  have HE := hid (show endsF ⟨et, ek, ea, el, en⟩ lock = (((ek == 4 || ek == 8) && el == lock) || ek == 11) from rfl)
  clear hr
  rw [HE.out]
  obtain ⟨b4, e4⟩ : ∃ b, (ek == 4) = b := ⟨_, rfl⟩
  obtain ⟨b8, e8⟩ : ∃ b, (ek == 8) = b := ⟨_, rfl⟩
  obtain ⟨bl, el'⟩ : ∃ b, (el == lock) = b := ⟨_, rfl⟩
  obtain ⟨b11, e11⟩ : ∃ b, (ek == 11) = b := ⟨_, rfl⟩
  clear HE
  rw [e4, e8, el', e11]
  cases b4 <;> cases b8 <;> cases bl <;> cases b11
  all_goals
    go_enter Try.func36, Try.ntmps36
    go_upto_region 1 with (fail)
    rw [← ew1]
    clear ew1
    go_wp2_with fail
    go_ret
    exact Gives.mk rfl HB.out
set_option maxRecDepth 100000 in
set_option maxHeartbeats 4000000 in
theorem waited_any (A : Option Addr) (ca n : Nat) (l : List Ev) (en : l.length = n) (hn : n ≤ 4294967290) (hl : ∀ k, U64 (evA l k).time) (k : Nat) (hk : k < n) (w : World) (ha : Cells w A (tab evV l)) :
    Calls Try.prog 26 #[.slice A n ca, .int .i64 (k : Int)] w (Gives (.int .u64 (waitedF l k)) w) := by
  obtain ⟨g, o, rfl, q0, q1, q2, q3, q4⟩ := ev_at ha (k := k) (by omega)
  have HA := hid ha
  have EN := hid en
  have HL := hid hl
  have HW := hid (show waitedF l k = wlF (evA l k).task (evA l k).lock (evA l k).time (l.drop (k + 1)) from rfl)
  have hk64 := hl k
  obtain ⟨⟨xt, xk, xa, xl, xn⟩, ex⟩ : ∃ z, evA l k = z := ⟨_, rfl⟩
  rw [ex] at q0 q1 q2 q3 q4 HW hk64
  simp only at q0 q1 q2 q3 q4 HW hk64
  have e0 : IntKind.i64.wrap ((k : Int) + 1) = (k : Int) + 1 := by rw [IntKind.wrap_i64]; omega
  clear ha en hl ex
  go_enter Try.func26, Try.ntmps26
  go_wp2_with fail
  go_loopw [5] (fun v wr => ∃ (i : Nat) (y : Past), v = .int .i64 (i : Int) ∧ k < i ∧ i ≤ n ∧ wr = w.past y ∧ Hid (waitedF l k = wlF xa xl xt (l.drop i))) (fun v _ => n - (intOf v).toNat)
  case atStart => exact ⟨k + 1, ⟨#[], w.drawn⟩, by go_num, Nat.lt_succ_self _, hk, World.past_refl w, HW⟩
  case round =>
    obtain ⟨i, y, rfl, hki, hi, rfl, H⟩ := hrel
    by_cases hlt : i < n
    · obtain ⟨g', o', e', r0, r1, r2, r3, r4⟩ := ev_at HA.out (k := i) (by rw [EN.out]; exact hlt)
      cases e'
      have hi64 := HL.out i
      have HD := hid (show wlF xa xl xt (l.drop i) = if (evA l i).task = xa ∧ endsF (evA l i) xl = true then subF (evA l i).time xt else wlF xa xl xt (l.drop (i + 1)) from by rw [drop_ev (by rw [EN.out]; exact hlt)]; rfl)
      obtain ⟨⟨et, ek, ea, el, en'⟩, ee⟩ : ∃ z, evA l i = z := ⟨_, rfl⟩
      rw [ee] at r0 r1 r2 r3 r4 HD hi64
      simp only at r0 r1 r2 r3 r4 HD hi64
      have e1 : IntKind.i64.wrap ((i : Int) + 1) = (i : Int) + 1 := by rw [IntKind.wrap_i64]; omega
      have HEN := hid (fun W => ends_any ⟨et, ek, ea, el, en'⟩ xl W)
      clear ee
      by_cases hta : ea = xa
      · subst hta
        have hta' : (ea == ea) = true := by simp
        obtain ⟨d, ed⟩ : ∃ d, endsF ⟨et, ek, ea, el, en'⟩ xl = d := ⟨_, rfl⟩
        rw [ed] at HEN HD
        clear ed
        cases d with
        | true =>
          have HR : Hid (waitedF l k = subF et xt) := hid (by rw [H.out, HD.out]; simp)
          by_cases hlt2 : et < xt
          · have hd : decide (et < xt) = true := by simpa using hlt2
            go_wp2_with fail
            refine wp_region_past (by kernel_rfl) (by kernel_rfl) ?_
            repeat (go_big_quiet_step ((first | (go_at_call 36; first | with_reducible exact Calls.in_past (HEN.out _) | with_reducible exact Calls.in_past2 (HEN.out _)) | (go_at_call 36; first | exact Calls.in_past (HEN.out _) | exact Calls.in_past2 (HEN.out _)))))
            refine wpQuiet_nil ?_
            rintro _ ⟨_, rfl⟩
            go_wp2_with fail
            refine wp_region_past (by kernel_rfl) (by kernel_rfl) ?_
            repeat (go_big_quiet_step ((fail)))
            refine wpQuiet_nil ?_
            rintro _ ⟨_, rfl⟩
            go_wp2_with fail
            go_ret
            exact ⟨by rw [HR.out, subF, hd]; rfl, _, by first | rfl | (simp only [World.past_past]; rfl)⟩
          · have hd : decide (et < xt) = false := by simpa using hlt2
            have ew : IntKind.u64.wrap (et - xt) = et - xt := by
              have := hi64.2; have := hk64.1
              rw [IntKind.wrap_u64]; omega
            go_wp2_with fail
            refine wp_region_past (by kernel_rfl) (by kernel_rfl) ?_
            repeat (go_big_quiet_step ((first | (go_at_call 36; first | with_reducible exact Calls.in_past (HEN.out _) | with_reducible exact Calls.in_past2 (HEN.out _)) | (go_at_call 36; first | exact Calls.in_past (HEN.out _) | exact Calls.in_past2 (HEN.out _)))))
            refine wpQuiet_nil ?_
            rintro _ ⟨_, rfl⟩
            go_wp2_with fail
            refine wp_region_past (by kernel_rfl) (by kernel_rfl) ?_
            repeat (go_big_quiet_step ((fail)))
            refine wpQuiet_nil ?_
            rintro _ ⟨_, rfl⟩
            go_wp2_with fail
            refine wp_region_past (by kernel_rfl) (by kernel_rfl) ?_
            repeat (go_big_quiet_step ((fail)))
            refine wpQuiet_nil ?_
            rintro _ ⟨_, rfl⟩
            go_wp2_with fail
            go_ret
            exact ⟨by rw [HR.out, subF, hd]; rfl, _, by first | rfl | (simp only [World.past_past]; rfl)⟩
        | false =>
          have HR : Hid (waitedF l k = wlF ea xl xt (l.drop (i + 1))) := hid (by rw [H.out, HD.out]; simp)
          go_wp2_with fail
          refine wp_region_past (by kernel_rfl) (by kernel_rfl) ?_
          repeat (go_big_quiet_step ((first | (go_at_call 36; first | with_reducible exact Calls.in_past (HEN.out _) | with_reducible exact Calls.in_past2 (HEN.out _)) | (go_at_call 36; first | exact Calls.in_past (HEN.out _) | exact Calls.in_past2 (HEN.out _)))))
          refine wpQuiet_nil ?_
          rintro _ ⟨_, rfl⟩
          go_wp2_with fail
          go_roundw
          case rel => exact ⟨i + 1, _, by go_num, by omega, by omega, by first | rfl | (simp only [World.past_past]; rfl), HR⟩
          case measure => simp [intOf]; omega
      · have hta' : (ea == xa) = false := by simpa using hta
        have HR : Hid (waitedF l k = wlF xa xl xt (l.drop (i + 1))) := hid (by rw [H.out, HD.out]; simp [hta])
        go_wp2_with fail
        refine wp_region_past (by kernel_rfl) (by kernel_rfl) ?_
        repeat (go_big_quiet_step ((fail)))
        refine wpQuiet_nil ?_
        rintro _ ⟨_, rfl⟩
        go_wp2_with fail
        go_roundw
        case rel => exact ⟨i + 1, _, by go_num, by omega, by omega, by first | rfl | (simp only [World.past_past]; rfl), HR⟩
        case measure => simp [intOf]; omega
    · obtain rfl : n = i := by omega
      have HR : Hid (waitedF l k = 0) := hid (by rw [H.out, List.drop_of_length_le (by rw [EN.out]; exact Nat.le_refl _)]; rfl)
      go_wp2_with fail
      go_ret
      exact ⟨by rw [HR.out]; rfl, _, rfl⟩
end Go.Proofs.Ytdeejiiegmddaaa
