/-
  A bucket of ticks (layer 38): what it answers, and what becomes of it. No condition but that it is one.
-/
import Derived.Test.YtmkndabbkceknaaObj
import Derived.Test.YtmkndabbkceknaaFixq
namespace Go.Proofs.Ytmkndabbkceknaa
open Go.RowKit
def bringF (n lo hi : Int) : Int := if n < lo then lo else if hi < n then hi else n
set_option maxHeartbeats 400000 in
theorem Bring_any (n lo hi : Int) (w : World) :
    Calls Try.prog 7 #[.int .i64 n, .int .i64 lo, .int .i64 hi] w (Gives (.int .i64 (bringF n lo hi)) w) := by
  rcases dec_cases (n < lo) with h | h
  · go_enter Try.func7, Try.ntmps7
    go_wp2
    go_ret
    exact Gives.refl (by simp at h; simp [bringF, h])
  · rcases dec_cases (hi < n) with h2 | h2
    all_goals
      go_enter Try.func7, Try.ntmps7
      go_wp2
      go_ret
      exact Gives.refl (by simp at h h2; simp [bringF, Int.not_lt.2 h, h2]; try omega)
set_option maxHeartbeats 400000 in
theorem qbring_any (n : Int) (hn : I64 n) (w : World) :
    Calls Try.prog 13 #[.int .i64 n] w (Gives (.int .i64 (bringF n 1 1048576)) w) := by
  have h : (n < 1) ∨ (1 ≤ n ∧ 1048576 < n) ∨ (1 ≤ n ∧ n ≤ 1048576) := by omega
  rcases h with h | ⟨h, h2⟩ | ⟨h, h2⟩
  all_goals
    go_enter Try.func13, Try.ntmps13
    go_wp2
    all_goals
      go_ret
      exact Gives.refl (congrArg (Value.int .i64) (by unfold bringF; split <;> (try split) <;> omega))
/-- A bucket. -/
structure Bk where
  bud : Int
  per : Int
  now : Int
  left : Int
structure BkOk (b : Bk) : Prop where
  bud : 1 ≤ b.bud ∧ b.bud ≤ 1048576
  per : 1 ≤ b.per ∧ b.per ≤ 1048576
  now : U64 b.now
  left : 0 ≤ b.left ∧ b.left ≤ b.bud
def Bk.at (w : World) (g : Nat) (b : Bk) : Prop := Rec w g 43 #[.int .i64 b.bud, .int .u64 b.per, .int .u64 b.now, .int .i64 b.left]
theorem bk_past (g : Nat) (b : Bk) (t : Int) (w : World) (h : b.at w g) :
    Calls Try.prog 14 #[.pointer (some ⟨g, 0, none⟩), .int .u64 t] w (Gives (.bool (decide (t < b.now))) w) := by
  have c2 := h.cell 2
  have lt := h.lt
  simp at c2
  clear h
  go_enter Try.func14, Try.ntmps14
  go_wp2
  go_ret
  exact Gives.refl rfl
def Bk.atF (b : Bk) (t : Int) : Int := if (t / b.per != b.now / b.per) = true then b.bud else b.left
set_option maxHeartbeats 1000000 in
theorem bk_at (g : Nat) (b : Bk) (t : Int) (ht : U64 t) (w : World) (ok : BkOk b) (h : b.at w g) :
    Calls Try.prog 15 #[.pointer (some ⟨g, 0, none⟩), .int .u64 t] w (Gives (.int .i64 (b.atF t)) w) := by
  have c0 := h.cell 0
  have c1 := h.cell 1
  have c2 := h.cell 2
  have c3 := h.cell 3
  have lt := h.lt
  simp at c0 c1 c2 c3
  obtain ⟨p1, p2⟩ := ok.per
  obtain ⟨q1, q2⟩ := ok.now
  obtain ⟨r1, r2⟩ := ht
  have d1 := Int.ediv_le_self b.per r1
  have d2 := Int.ediv_nonneg r1 (show 0 ≤ b.per by omega)
  have d3 := Int.ediv_le_self b.per q1
  have d4 := Int.ediv_nonneg q1 (show 0 ≤ b.per by omega)
  have e1 : IntKind.u64.wrap (t.tdiv b.per) = t / b.per := by rw [Int.tdiv_eq_ediv_of_nonneg r1, IntKind.wrap_u64]; omega
  have e2 : IntKind.u64.wrap (b.now.tdiv b.per) = b.now / b.per := by rw [Int.tdiv_eq_ediv_of_nonneg q1, IntKind.wrap_u64]; omega
  have p0 : ¬ b.per = 0 := by omega
  clear h ok r2 q2 p2 d1 d2 d3 d4
  rcases Bool.eq_false_or_eq_true (t / b.per != b.now / b.per) with hb | hb
  · go_enter Try.func15, Try.ntmps15
    go_wp2_with fail
    refine wp_region_past (by kernel_rfl) (by kernel_rfl) ?_
    repeat (go_big_quiet_step ((fail)))
    refine wpQuiet_nil ?_
    rintro _ ⟨_, rfl⟩
    go_wp2
    go_ret
    refine Gives.mk (by simp [Bk.atF, hb]) ?_
    (repeat (first | exact Below.refl _ _ | refine RowKit.Below.past ?_ _ | refine RowKit.Below.alloc' ?_ _ | refine RowKit.Below.drew' ?_ | refine RowKit.Below.drewN' ?_ _ | refine RowKit.Below.setCell' ?_ (by simp [go_sem]) _))
  · go_enter Try.func15, Try.ntmps15
    go_wp2_with fail
    refine wp_region_past (by kernel_rfl) (by kernel_rfl) ?_
    repeat (go_big_quiet_step ((fail)))
    refine wpQuiet_nil ?_
    rintro _ ⟨_, rfl⟩
    go_wp2
    go_ret
    refine Gives.mk (by simp [Bk.atF, hb]) ?_
    (repeat (first | exact Below.refl _ _ | refine RowKit.Below.past ?_ _ | refine RowKit.Below.alloc' ?_ _ | refine RowKit.Below.drew' ?_ | refine RowKit.Below.drewN' ?_ _ | refine RowKit.Below.setCell' ?_ (by simp [go_sem]) _))
theorem atF_in {b : Bk} (ok : BkOk b) (t : Int) : 0 ≤ b.atF t ∧ b.atF t ≤ b.bud := by
  have := ok.left; have := ok.bud
  unfold Bk.atF
  split <;> omega
/-- It returns v; the block is b's, all others are as they were. -/
def GivesBk (v : Value) (w : World) (g : Nat) (b : Bk) (e : Ending) (w' : World) : Prop := e = .returned v ∧ Kept (· = g) w w' ∧ b.at w' g
def Bk.no (b : Bk) (t n : Int) : Bool := decide (t < b.now) || decide (n < 0)
def Bk.takeK (b : Bk) (t n : Int) : Int := if b.no t n = true then 0 else min n (b.atF t)
def Bk.take (b : Bk) (t n : Int) : Bk := if b.no t n = true then b else ⟨b.bud, b.per, t, b.atF t - min n (b.atF t)⟩
set_option maxHeartbeats 1000000 in
theorem bk_take (g : Nat) (b : Bk) (t n : Int) (ht : U64 t) (hn : I64 n) (w : World) (ok : BkOk b) (h : b.at w g) :
    Calls Try.prog 8 #[.pointer (some ⟨g, 0, none⟩), .int .u64 t, .int .i64 n] w (GivesBk (.tuple #[.int .i64 (b.takeK t n), .bool (!b.no t n)]) w g (b.take t n)) := by
  have H := hid h
  have OK := hid ok
  have HT := hid ht
  have lt := h.lt
  have al := atF_in ok t
  have bb := ok.bud
  have hn1 := hn.2
  have hn0 := hn.1
  clear h ok ht hn
  rcases dec_cases (t < b.now) with h1 | h1
  · have hno : b.no t n = true := by simp [Bk.no, h1]
    go_enter Try.func8, Try.ntmps8
    go_wp2_with ((go_at_call 14; refine (bk_past g b t w H.out).mono ?_; rintro _ _ ⟨rfl, _, rfl⟩))
    go_ret2
    refine ⟨by simp [Bk.takeK, hno], (Kept.refl _ _).past _, ?_⟩
    simp only [Bk.take, hno, if_true]
    exact Rec.past H.out _
  · rcases dec_cases (n < 0) with h2 | h2
    · have hno : b.no t n = true := by simp [Bk.no, h2]
      go_enter Try.func8, Try.ntmps8
      go_wp2_with ((go_at_call 14; refine (bk_past g b t w H.out).mono ?_; rintro _ _ ⟨rfl, _, rfl⟩))
      go_ret2
      refine ⟨by simp [Bk.takeK, hno], (Kept.refl _ _).past _, ?_⟩
      simp only [Bk.take, hno, if_true]
      exact Rec.past H.out _
    · have hno : b.no t n = false := by simp [Bk.no, h1, h2]
      obtain ⟨L, hL⟩ : ∃ L, b.atF t = L := ⟨_, rfl⟩
      have HL := hid hL
      rw [hL] at al
      clear hL
      have hm : L ≤ n ∨ n < L := by omega
      have h2' : 0 ≤ n := by simpa using h2
      have c2 := H.out.cell 2
      have c3 := H.out.cell 3
      have f2 := H.out.frozen 2
      have f3 := H.out.frozen 3
      simp at c2 c3
      have ek : b.takeK t n = min n L := by simp [Bk.takeK, hno, HL.out]
      have et : b.take t n = ⟨b.bud, b.per, t, L - min n L⟩ := by simp [Bk.take, hno, HL.out]
      have EK := hid ek
      have ET := hid et
      clear ek et
      rcases hm with hm | hm
      all_goals
        go_enter Try.func8, Try.ntmps8
        go_wp2_with (first | (go_at_call 14; refine (bk_past g b t w H.out).mono ?_; rintro _ _ ⟨rfl, _, rfl⟩) | (go_at_call 15; refine (bk_at g b t HT.out _ OK.out (Rec.past H.out _)).mono ?_; rintro _ _ ⟨rfl, _, rfl⟩; rw [HL.out]))
        all_goals
          go_ret2
          refine ⟨?_, ?_, ?_⟩
          · rw [EK.out]
            first
              | (rw [show min n L = n by omega]; with_reducible rfl)
              | (rw [show min n L = L by omega]; with_reducible rfl)
              | (rw [show min n L = n by omega]; rfl)
              | (rw [show min n L = L by omega]; rfl)
          · exact ((Kept.setCell (F := (· = g)) (Kept.setCell (F := (· = g)) (Kept.refl _ _) (Or.inr rfl) _) (Or.inr rfl) _)).past _
          · rw [ET.out]
            refine Rec.past ?_ _
            first
              | (have := (H.out.set 2 (.int .u64 t)).set 3 (.int .i64 (L - n)); rw [show min n L = n by omega]; simpa using this)
              | (have := (H.out.set 2 (.int .u64 t)).set 3 (.int .i64 (L - L)); rw [show min n L = L by omega]; simpa using this)
def Bk.leftF (b : Bk) (t : Int) : Int := if decide (t < b.now) = true then 0 else b.atF t
set_option maxHeartbeats 1000000 in
theorem bk_left (g : Nat) (b : Bk) (t : Int) (ht : U64 t) (w : World) (ok : BkOk b) (h : b.at w g) :
    Calls Try.prog 12 #[.pointer (some ⟨g, 0, none⟩), .int .u64 t] w (Gives (.int .i64 (b.leftF t)) w) := by
  have H := hid h
  have OK := hid ok
  have HT := hid ht
  clear h ok ht
  rcases dec_cases (t < b.now) with h1 | h1
  all_goals
    go_enter Try.func12, Try.ntmps12
    go_wp2_with (first | (go_at_call 14; refine (bk_past g b t w H.out).mono ?_; rintro _ _ ⟨rfl, _, rfl⟩) | (go_at_call 15; refine (bk_at g b t HT.out _ OK.out (Rec.past H.out _)).mono ?_; rintro _ _ ⟨rfl, _, rfl⟩))
    go_ret
    refine Gives.mk (by simp [Bk.leftF, h1]) ?_
    (repeat (first | exact Below.refl _ _ | refine RowKit.Below.past ?_ _ | refine RowKit.Below.alloc' ?_ _ | refine RowKit.Below.drew' ?_ | refine RowKit.Below.drewN' ?_ _ | refine RowKit.Below.setCell' ?_ (by simp [go_sem]) _))
theorem addF_word (a b : Int) : U64 (addF a b) := by
  unfold addF
  split
  · unfold sumF top64; exact ⟨by omega, by omega⟩
  · exact ⟨by omega, by omega⟩
def Bk.whenK (b : Bk) (t n : Int) : Int := if decide (t < b.now) = true then 0 else if decide (b.bud < n) = true then 0 else if decide (n ≤ b.atF t) = true then t else if (addE (t / b.per) 1 != 0) = true then 0 else if (mulE (addF (t / b.per) 1) b.per != 0) = true then 0 else mulF (addF (t / b.per) 1) b.per
def Bk.whenB (b : Bk) (t n : Int) : Bool := if decide (t < b.now) = true then false else if decide (b.bud < n) = true then false else if decide (n ≤ b.atF t) = true then true else if (addE (t / b.per) 1 != 0) = true then false else if (mulE (addF (t / b.per) 1) b.per != 0) = true then false else true
set_option maxHeartbeats 2000000 in
theorem bk_when (g : Nat) (b : Bk) (t n : Int) (ht : U64 t) (w : World) (ok : BkOk b) (h : b.at w g) :
    Calls Try.prog 11 #[.pointer (some ⟨g, 0, none⟩), .int .u64 t, .int .i64 n] w (Gives (.tuple #[.int .u64 (b.whenK t n), .bool (b.whenB t n)]) w) := by
  have H := hid h
  have OK := hid ok
  have HT := hid ht
  have lt := h.lt
  have c0 := h.cell 0
  have c1 := h.cell 1
  simp at c0 c1
  have p0 : ¬ b.per = 0 := by have := ok.per; omega
  have r1 := ht.1
  have d1 := Int.ediv_le_self b.per r1
  have d2 := Int.ediv_nonneg r1 (show 0 ≤ b.per by have := ok.per; omega)
  have HQ : Hid (U64 (t / b.per)) := hid ⟨d2, by have := ht.2; omega⟩
  have e1 : IntKind.u64.wrap (t.tdiv b.per) = t / b.per := by rw [Int.tdiv_eq_ediv_of_nonneg r1, IntKind.wrap_u64]; have := ht.2; omega
  have hp : Hid (U64 b.per) := hid ⟨by have := ok.per; omega, by have := ok.per; omega⟩
  obtain ⟨q, hq⟩ : ∃ q, t / b.per = q := ⟨_, rfl⟩
  have HF : Hid (b.atF t = b.atF t) := hid rfl
  have hc : (decide (t < b.now) = true) ∨ (decide (t < b.now) = false ∧ decide (b.bud < n) = true) ∨ (decide (t < b.now) = false ∧ decide (b.bud < n) = false ∧ decide (n ≤ b.atF t) = true) ∨ (decide (t < b.now) = false ∧ decide (b.bud < n) = false ∧ decide (n ≤ b.atF t) = false ∧ (addE q 1 != 0) = true) ∨ (decide (t < b.now) = false ∧ decide (b.bud < n) = false ∧ decide (n ≤ b.atF t) = false ∧ (addE q 1 != 0) = false ∧ (mulE (addF q 1) b.per != 0) = true) ∨ (decide (t < b.now) = false ∧ decide (b.bud < n) = false ∧ decide (n ≤ b.atF t) = false ∧ (addE q 1 != 0) = false ∧ (mulE (addF q 1) b.per != 0) = false) := by
    cases decide (t < b.now) <;> cases decide (b.bud < n) <;> cases decide (n ≤ b.atF t) <;> cases (addE q 1 != 0) <;> cases (mulE (addF q 1) b.per != 0) <;> simp
  rw [hq] at e1 HQ
  have hw : Hid (b.whenK t n = b.whenK t n) := hid rfl
  have HA : Hid (U64 (addF q 1)) := hid (addF_word _ _)
  have HQ' := hid hq
  clear hq d1 d2 h ok ht r1
  have W : ∀ x y, x = b.whenK t n → y = b.whenB t n → Value.tuple #[.int .u64 x, .bool y] = Value.tuple #[.int .u64 (b.whenK t n), .bool (b.whenB t n)] := by intro x y h1 h2; rw [h1, h2]
  have HW := hid W
  clear W
  rcases hc with h1 | ⟨h1, h2⟩ | ⟨h1, h2, h3⟩ | ⟨h1, h2, h3, h4⟩ | ⟨h1, h2, h3, h4, h5⟩ | ⟨h1, h2, h3, h4, h5⟩
  all_goals
    go_enter Try.func11, Try.ntmps11
    go_wp2_with (first | (go_at_call 14; refine (bk_past g b t w H.out).mono ?_; rintro _ _ ⟨rfl, _, rfl⟩) | (go_at_call 15; refine (bk_at g b t HT.out _ OK.out (Rec.past H.out _)).mono ?_; rintro _ _ ⟨rfl, _, rfl⟩) | (go_at_call 22; refine (Add_any q 1 HQ.out ⟨by omega, by omega⟩ _).mono ?_; rintro _ _ ⟨rfl, _, rfl⟩) | (go_at_call 23; refine (Mul_any (addF q 1) b.per HA.out hp.out _).mono ?_; rintro _ _ ⟨rfl, _, rfl⟩))
    go_ret2
    refine Gives.mk (HW.out _ _ ?_ ?_) ?_
    · simp only [Bk.whenK, HQ'.out, h1, *]; simp
    · simp only [Bk.whenB, HQ'.out, h1, *]; simp
    · (repeat (first | exact Below.refl _ _ | refine RowKit.Below.past ?_ _ | refine RowKit.Below.alloc' ?_ _ | refine RowKit.Below.drew' ?_ | refine RowKit.Below.drewN' ?_ _ | refine RowKit.Below.setCell' ?_ (by simp [go_sem]) _))
def newBk (n p : Int) : Bk := ⟨bringF n 1 1048576, bringF p 1 1048576, 0, bringF n 1 1048576⟩
theorem bring_in (n : Int) : 1 ≤ bringF n 1 1048576 ∧ bringF n 1 1048576 ≤ 1048576 := by unfold bringF; split <;> (try split) <;> omega
theorem newBk_ok (n p : Int) : BkOk (newBk n p) := by
  have := bring_in n
  exact ⟨bring_in n, bring_in p, ⟨by simp [newBk], by simp [newBk]⟩, by simp [newBk]; omega⟩
set_option maxHeartbeats 1000000 in
theorem bk_new (n p : Int) (hn : I64 n) (hp : I64 p) (w : World) :
    Calls Try.prog 6 #[.int .i64 n, .int .i64 p] w (fun e w' => ∃ g, e = .returned (.pointer (some ⟨g, 0, none⟩)) ∧ Below w.heap.size w w' ∧ w.heap.size ≤ g ∧ (newBk n p).at w' g) := by
  have HN := hid hn
  have HP := hid hp
  obtain ⟨P, eP⟩ : ∃ P, bringF p 1 1048576 = P := ⟨_, rfl⟩
  have hb := bring_in p
  rw [eP] at hb
  have e1 : IntKind.u64.wrap P = P := by rw [IntKind.wrap_u64]; omega
  have EP := hid eP
  clear hn hp eP hb
  go_enter Try.func6, Try.ntmps6
  go_wp2_with (go_at_call 13; first | ((with_reducible refine (qbring_any n HN.out _).mono ?_); rintro _ _ ⟨rfl, _, rfl⟩) | ((with_reducible refine (qbring_any p HP.out _).mono ?_); rintro _ _ ⟨rfl, _, rfl⟩; rw [EP.out]))
  go_ret
  refine ⟨_, rfl, ?_, Nat.le_add_right _ _, ?_⟩
  · (repeat (first | exact Below.refl _ _ | refine RowKit.Below.past ?_ _ | refine RowKit.Below.alloc' ?_ _ | refine RowKit.Below.drew' ?_ | refine RowKit.Below.drewN' ?_ _ | refine RowKit.Below.setCell' ?_ (by simp [go_sem]) _))
  · unfold Bk.at newBk
    rw [EP.out]
    rw [← World.size_past]
    exact Rec.new _ _ _
end Go.Proofs.Ytmkndabbkceknaa
