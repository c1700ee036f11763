/-
  The document's division of numbers of digits: what it comes to. No condition but on lengths.
-/
import Derived.Test.YtpihkagmkmjfpaaDigD
namespace Go.Proofs.Ytpihkagmkmjfpaa
open Go.RowKit
/-! Plain numbers. -/
/-- What has been brought down: the digits above the j-th one, and its highest bits, all but k. -/
def topN (a : List Int) (j k : Nat) : Int := val (a.drop (j + 1)) * 2 ^ (16 - k) + atD a j / 2 ^ k
theorem val_cons (x : Int) (l : List Int) : val (x :: l) = x + 65536 * val l := by
  have := val_append [x] l
  simpa [val_one] using this
theorem drop_at {a : List Int} {j : Nat} (h : j < a.length) : a.drop j = atD a j :: a.drop (j + 1) := by
  rw [List.drop_eq_getElem_cons h]
  simp [atD, h]
theorem top_low {a : List Int} {j : Nat} (h : j < a.length) : topN a j 0 = val (a.drop j) := by
  rw [drop_at h, val_cons]; unfold topN; omega
theorem top_high {a : List Int} (ha : Digs a) (j : Nat) : topN a j 16 = val (a.drop (j + 1)) := by
  have := ha.at j
  unfold topN; omega
def bitN (a : List Int) (j k : Nat) : Int := atD a j / 2 ^ k % 2
theorem top_step (a : List Int) (j : Nat) {k : Nat} (hk : k < 16) : topN a j k = 2 * topN a j (k + 1) + bitN a j k := by
  unfold topN bitN
  have e1 : (16 - k) = (16 - (k + 1)) + 1 := by omega
  have e2 : atD a j / 2 ^ (k + 1) = atD a j / 2 ^ k / 2 := by
    rw [Int.pow_succ, Int.ediv_ediv_of_nonneg (Int.pow_nonneg (by omega))]
  rw [e1, Int.pow_succ, e2, ← Int.mul_assoc]
  omega
theorem bit_in (a : List Int) (j k : Nat) : 0 ≤ bitN a j k ∧ bitN a j k < 2 := by unfold bitN; omega
theorem top_pos {a : List Int} (ha : Digs a) (j k : Nat) : 0 ≤ topN a j k := by
  have h1 : 0 ≤ val (a.drop (j + 1)) := (valN_pos (l := a.drop (j + 1)) (fun x hx => ha x (List.mem_of_mem_drop hx)) _ 0).1
  have h2 := Int.mul_nonneg h1 (show (0 : Int) ≤ 2 ^ (16 - k) from Int.pow_nonneg (by omega))
  have h3 : 0 ≤ atD a j / 2 ^ k := Int.ediv_nonneg (ha.at j).1 (Int.pow_nonneg (by omega))
  unfold topN; omega
/-- One bit of a division. -/
theorem bit_div {n b t : Int} (hb : 0 < b) (h0 : 0 ≤ t) (h1 : t < 2) :
    (2 * (n % b) + t < b → (2 * n + t) % b = 2 * (n % b) + t ∧ (2 * n + t) / b = 2 * (n / b)) ∧ (b ≤ 2 * (n % b) + t → (2 * n + t) % b = 2 * (n % b) + t - b ∧ (2 * n + t) / b = 2 * (n / b) + 1) := by
  have e := Int.mul_ediv_add_emod n b
  have r0 := Int.emod_nonneg n (show b ≠ 0 by omega)
  have r1 := Int.emod_lt_of_pos n hb
  generalize n / b = q at *
  generalize n % b = r at *
  constructor
  · intro h
    have : 2 * n + t = (2 * r + t) + b * (2 * q) := by rw [← e, Int.mul_left_comm]; omega
    rw [this, Int.add_mul_emod_self_left, Int.add_mul_ediv_left _ _ (by omega), Int.emod_eq_of_lt (by omega) h, Int.ediv_eq_zero_of_lt (by omega) h]
    exact ⟨rfl, by omega⟩
  · intro h
    have : 2 * n + t = (2 * r + t - b) + b * (2 * q + 1) := by rw [← e, Int.mul_add, Int.mul_add, Int.mul_left_comm]; omega
    rw [this, Int.add_mul_emod_self_left, Int.add_mul_ediv_left _ _ (by omega), Int.emod_eq_of_lt (by omega) (by omega), Int.ediv_eq_zero_of_lt (by omega) (by omega)]
    exact ⟨rfl, by omega⟩
theorem room {k : Nat} (hk : k < 16) {x c : Int} (h : x = c * 2 ^ (k + 1)) (h1 : x < 65536) : x + 2 ^ k < 65536 := by
  have : k = 0 ∨ k = 1 ∨ k = 2 ∨ k = 3 ∨ k = 4 ∨ k = 5 ∨ k = 6 ∨ k = 7 ∨ k = 8 ∨ k = 9 ∨ k = 10 ∨ k = 11 ∨ k = 12 ∨ k = 13 ∨ k = 14 ∨ k = 15 := by omega
  rcases this with rfl | rfl | rfl | rfl | rfl | rfl | rfl | rfl | rfl | rfl | rfl | rfl | rfl | rfl | rfl | rfl <;> simp at h ⊢ <;> omega
theorem atD_set {l : List Int} {j : Nat} (h : j < l.length) (x : Int) (i : Nat) : atD (l.set j x) i = if i = j then x else atD l i := by
  unfold atD
  rw [List.getElem?_set]
  by_cases e : j = i
  · subst e; simp [h]
  · rw [if_neg e, if_neg (by omega)]
theorem valN_set (f g : Nat → Int) (j : Nat) (d : Int) (hj : g j = f j + d) (ho : ∀ i, i ≠ j → g i = f i) : ∀ n, valN g n = valN f n + (if j < n then d * 65536 ^ j else 0) := by
  intro n
  induction n with
  | zero => simp [valN]
  | succ n ih =>
    rw [valN, valN, ih]
    by_cases e : n = j
    · subst e
      rw [hj, Int.add_mul]
      simp
      omega
    · rw [ho n e]
      by_cases h : j < n
      · rw [if_pos h, if_pos (by omega)]; omega
      · rw [if_neg h, if_neg (by omega)]; omega
theorem val_set {l : List Int} {j : Nat} (h : j < l.length) (d : Int) : val (l.set j (atD l j + d)) = val l + d * 65536 ^ j := by
  have := valN_set (atD l) (atD (l.set j (atD l j + d))) j d (by rw [atD_set h]; simp) (fun i hi => by rw [atD_set h]; simp [hi]) l.length
  rw [if_pos h] at this
  rw [val, List.length_set]
  exact this
theorem set_digs {l : List Int} (h : Digs l) {j : Nat} {x : Int} (h0 : 0 ≤ x) (h1 : x < 65536) : Digs (l.set j x) := by
  intro y hy
  rcases List.mem_or_eq_of_mem_set hy with hy | rfl
  · exact h y hy
  · exact ⟨h0, h1⟩
/-- What stands behind the bits down to k of the j-th digit. -/
structure DivN (a : List Int) (b : Int) (j k : Nat) (out rest : List Int) : Prop where
  vr : val rest = topN a j k % b
  vo : val out = topN a j k / b * (2 ^ k * 65536 ^ j)
  dg : Digs out
  ln : out.length = a.length
  pa : ∃ c, atD out j = c * 2 ^ k
  lw : ∀ i, i < j → atD out i = 0
/-- What stands behind the digits down to j. -/
structure OutN (a : List Int) (b : Int) (j : Nat) (out rest : List Int) : Prop where
  vr : val rest = val (a.drop j) % b
  vo : val out = val (a.drop j) / b * 65536 ^ j
  dg : Digs out
  ln : out.length = a.length
  lw : ∀ i, i < j → atD out i = 0
theorem OutN.begin {a : List Int} {b : Int} : OutN a b a.length (List.replicate a.length 0) [] := by
  have hz : ∀ i, atD (List.replicate a.length 0) i = 0 := by
    intro i; unfold atD; rw [List.getElem?_replicate]; split <;> rfl
  refine ⟨by simp [val, valN], ?_, ?_, by simp, fun i _ => hz i⟩
  · rw [val_zeros]; simp [val, valN]
  · intro x hx; simp at hx; omega
theorem OutN.goes {a : List Int} {b : Int} {j : Nat} {out rest : List Int} (ha : Digs a) (h : OutN a b (j + 1) out rest) : DivN a b j 16 out rest := by
  refine ⟨by rw [top_high ha]; exact h.vr, ?_, h.dg, h.ln, ⟨0, by rw [h.lw j (by omega)]; simp⟩, fun i hi => h.lw i (by omega)⟩
  rw [top_high ha, h.vo, Int.pow_succ, Int.mul_comm (65536 ^ j)]
  rfl
theorem DivN.ends {a : List Int} {b : Int} {j : Nat} {out rest : List Int} (hj : j < a.length) (h : DivN a b j 0 out rest) : OutN a b j out rest := by
  refine ⟨by rw [← top_low hj]; exact h.vr, ?_, h.dg, h.ln, h.lw⟩
  rw [← top_low hj, h.vo]; simp
theorem DivN.less {a : List Int} {b : Int} {j k : Nat} {out rest rest' : List Int} (hb : 0 < b) (hk : k < 16) (h : DivN a b j (k + 1) out rest) (hr : val rest' = 2 * val rest + bitN a j k) (hl : val rest' < b) : DivN a b j k out rest' := by
  have bt := bit_in a j k
  have e := (bit_div (n := topN a j (k + 1)) hb bt.1 bt.2).1
  rw [← h.vr, ← hr, ← top_step a j hk] at e
  obtain ⟨e1, e2⟩ := e hl
  refine ⟨e1.symm, ?_, h.dg, h.ln, ?_, h.lw⟩
  · rw [h.vo, e2, Int.pow_succ]; simp only [Int.mul_assoc, Int.mul_comm, Int.mul_left_comm]
  · obtain ⟨c, hc⟩ := h.pa
    exact ⟨c * 2, by rw [hc, Int.pow_succ, Int.mul_assoc, Int.mul_comm (2 ^ k)]⟩
theorem DivN.more {a : List Int} {b : Int} {j k : Nat} {out rest rest' : List Int} (hb : 0 < b) (hk : k < 16) (hj : j < a.length) (h : DivN a b j (k + 1) out rest) (hr : val rest' = 2 * val rest + bitN a j k - b) (hl : b ≤ 2 * val rest + bitN a j k) :
    DivN a b j k (out.set j (atD out j + 2 ^ k)) rest' ∧ atD out j + 2 ^ k < 65536 ∧ 0 ≤ atD out j := by
  have bt := bit_in a j k
  have e := (bit_div (n := topN a j (k + 1)) hb bt.1 bt.2).2
  rw [← h.vr, ← hr, ← top_step a j hk] at e
  obtain ⟨e1, e2⟩ := e hl
  obtain ⟨c, hc⟩ := h.pa
  have hjl : j < out.length := by rw [h.ln]; exact hj
  have rm := room hk hc (h.dg.at j).2
  have p0 : (0 : Int) ≤ 2 ^ k := Int.pow_nonneg (by omega)
  refine ⟨⟨e1.symm, ?_, set_digs h.dg (by have := (h.dg.at j).1; omega) rm, by simp [h.ln], ?_, ?_⟩, rm, (h.dg.at j).1⟩
  · rw [val_set hjl, h.vo, e2, Int.pow_succ, Int.add_mul, Int.one_mul]; simp only [Int.mul_assoc, Int.mul_comm, Int.mul_left_comm]
  · refine ⟨c * 2 + 1, ?_⟩
    rw [atD_set hjl, if_pos rfl, hc, Int.pow_succ, Int.add_mul, Int.mul_assoc, Int.mul_comm (2 ^ k), Int.one_mul]
  · intro i hi
    rw [atD_set hjl, if_neg (by omega)]
    exact h.lw i hi
theorem take_val {l : List Int} {n : Nat} (hn : n < l.length) (h0 : atD l n = 0) : val (l.take (n + 1)) = val (l.take n) := by
  have e : l.take (n + 1) = l.take n ++ [atD l n] := by
    rw [List.take_succ_eq_append_getElem hn]; simp [atD, hn]
  rw [e, val_append, h0, val_one]; simp
theorem DivN.same {a : List Int} {b : Int} {j k : Nat} {out rest rest' : List Int} (h : DivN a b j k out rest) (e : val rest' = val rest) : DivN a b j k out rest' := ⟨by rw [e]; exact h.vr, h.vo, h.dg, h.ln, h.pa, h.lw⟩
theorem u64s_take (l : List Int) (n : Nat) : u64s (l.take n) = (u64s l).take n := by simp [u64s, List.map_take]
def lenOf : Value → Nat
  | .slice _ n _ => n
  | _ => 0
/-! The walk. -/
theorem own_cap {w : World} {base : Nat} {e : TypeId} {size n cap : Nat} {A : Option Addr} {xs : List Value} (h : w.ownsRow base e size (.slice A n cap) n xs) : n ≤ cap := by
  rcases h.2 with ⟨hv, hn⟩ | ⟨g, cap', cur, hv, _, _, hc, _⟩
  · omega
  · injection hv with _ _ h; omega
theorem Cells.setCell_ne {w : World} {A : Option Addr} {xs : List Value} (h : Cells w A xs) {p : Addr} (hp : ∀ a, A = some a → a.block ≠ p.block) (u : Value) : Cells (w.setCell p u) A xs := fun hne => by
  obtain ⟨b, off, e, hc⟩ := h hne
  refine ⟨b, off, e, fun i v hi => ?_⟩
  rw [World.cell?_setCell_other w p _ u (fun e' => hp _ e (by rw [e']))]
  exact hc i v hi
/-- The state: what is out, and what is left. -/
structure DivW (w wr : World) (g : Nat) (out : List Int) : Prop where
  below : Below w.heap.size w wr
  own : wr.ownsRow w.heap.size 22 1 (.slice (some ⟨g, 0, none⟩) out.length out.length) out.length (u64s out)
structure RestW (wr : World) (g : Nat) (R : Option Addr) (cr : Nat) (rest : List Int) : Prop where
  cells : Cells wr R (u64s rest)
  ne : ∀ a, R = some a → a.block ≠ g
  cap : rest.length ≤ cr
  digs : Digs rest
set_option maxHeartbeats 4000000 in
theorem Divide_any (A B : Option Addr) (ca cb : Nat) (a b : List Int) (la : Nat) (ea : a.length = la) (w : World) (hl0 : 0 < la) (hla : la ≤ 100) (hlb : b.length ≤ 100) (da : Digs a) (db : Digs b) (ha : Cells w A (u64s a)) (hb : Cells w B (u64s b)) (hv : 0 < val b) :
    Calls Try.prog 35 #[.slice A la ca, .slice B b.length cb] w (fun e w' => ∃ (O R : Option Addr) (co cr : Nat) (out rest : List Int), e = .returned (.tuple #[.slice O out.length co, .slice R rest.length cr]) ∧ Below w.heap.size w w' ∧ Cells w' O (u64s out) ∧ Cells w' R (u64s rest) ∧
      out.length = la ∧ rest.length ≤ 10000 ∧ Digs out ∧ Digs rest ∧ val out = val a / val b ∧ val rest = val a % val b) := by
  obtain ⟨i0, hi, hz0, hz1, hz2⟩ := info_parts info_u64
  have EA := hid ea
  have Hv := hid hv
  clear ea hv
  go_enter Try.func35, Try.ntmps35
  go_wp2_with (at_make; refine wpList_make_full _ rfl (.tmp 11) (.tmp 11) 50 rfl w.heap.size 22 i0 (.int .u64 0) 1 Try.underlying50 hi hz0 hz1 .i64 .i64 _ _ la rfl rfl rfl rfl ?_ ?_ (Nat.le_refl _) ?_; (· rw [hz2]; omega); (· unfold maxLen; omega); intro w2 hrow hg2; have hb2 := hid ((Below.refl w.heap.size w).grown hg2 (Nat.le_refl _) (fun _ h => by cases h)); have hrow := hid hrow; clear hg2)
  obtain ⟨g, hg⟩ : ∃ g, g = w.heap.size := ⟨_, rfl⟩
  have hrow2 := hid (show w2.ownsRow w.heap.size 22 1 (.slice (some ⟨g, 0, none⟩) la la) la (u64s (List.replicate la 0)) by
    have := hrow.out
    rw [← hg] at this ⊢
    simpa [u64s, toList_madeCells_one, Value.cells] using this)
  clear hrow
  rw [← hg]
  have Hg := hid hg
  clear hg
  go_loopw [6, 8] (fun r i wr => ∃ (j : Nat) (R : Option Addr) (cr : Nat) (out rest : List Int), i = .int .i64 ((j : Int) - 1) ∧ j ≤ la ∧ r = .slice R rest.length cr ∧ rest.length ≤ 100 + 32 * (la - j) ∧ Hid (DivW w wr g out) ∧ Hid (RestW wr g R cr rest) ∧ Hid (OutN a (val b) j out rest)) (fun _ i _ => (intOf i + 1).toNat)
  case atStart =>
    refine ⟨la, none, 0, List.replicate la 0, [], rfl, Nat.le_refl _, rfl, by simp, hid ⟨hb2.out, by simpa using hrow2.out⟩, hid ⟨Cells.nil _ _, (fun _ h => by cases h), Nat.le_refl _, (fun _ h => by cases h)⟩, ?_⟩
    exact hid (EA.out ▸ OutN.begin)
  case round =>
    obtain ⟨j, R, cr, out, rest, rfl, hj, rfl, hlen, HD, HR, HN⟩ := hrel
    cases j with
    | zero =>
      have hlo : out.length = la := by rw [HN.out.ln, EA.out]
      go_wp2
      go_ret2
      refine ⟨some ⟨g, 0, none⟩, R, la, cr, out, rest, by rw [hlo]; rfl, HD.out.below, Cells.of_own HD.out.own, HR.out.cells, hlo, by omega, HN.out.dg, HR.out.digs, by simpa using HN.out.vo, by simpa using HN.out.vr⟩
    | succ j =>
      have ej : ((j + 1 : Nat) : Int) - 1 = (j : Int) := by omega
      rw [ej]
      have HN' := hid (HN.out.goes da)
      go_wp2
      go_loopw [6, 9] (fun r i wr => ∃ (k : Nat) (R : Option Addr) (cr : Nat) (out rest : List Int), i = .int .i64 ((k : Int) - 1) ∧ k ≤ 16 ∧ r = .slice R rest.length cr ∧ rest.length ≤ 100 + 32 * (la - (j + 1)) + 2 * (16 - k) ∧ Hid (DivW w wr g out) ∧ Hid (RestW wr g R cr rest) ∧ Hid (DivN a (val b) j k out rest)) (fun _ i _ => (intOf i + 1).toNat)
      case atStart => exact ⟨16, R, cr, out, rest, rfl, by omega, rfl, by omega, HD, HR, HN'⟩
      case round =>
        clear HD HR HN HN' hlen ej
        obtain ⟨k, R, cr, out, rest, rfl, hk, rfl, hlen, HD, HR, HN⟩ := hrel
        cases k with
        | zero =>
          have HN' := hid (HN.out.ends (by rw [EA.out]; omega))
          go_wp2
          go_roundw
          case rel => exact ⟨j, R, cr, out, rest, rfl, by omega, rfl, by omega, HD, HR, HN'⟩
          case measure => simp [intOf]
        | succ k =>
          have ek : ((k + 1 : Nat) : Int) - 1 = (k : Int) := by omega
          rw [ek]
          have hgw : g < wr.heap.size := (HD.out.own.lt g rfl).2
          go_wp2_with fail
          refine (Sum_any R R cr cr rest rest wr (by omega) (by omega) HR.out.digs HR.out.digs HR.out.cells HR.out.cells).mono ?_
          rintro _ w3 ⟨S, cs, rfl, hb3, ho3⟩
          have hca := ha.below (below_trans' HD.out.below hb3)
          obtain ⟨b1, o1, rfl, hc1⟩ := u64_at hca (show j < a.length by have := EA.out; omega)
          clear hca
          have hb3 := hid hb3
          have ho3 := hid ho3
          go_wp2_with fail
          have eb : (atD a j / 2 ^ k).tmod 2 = bitN a j k := by
            rw [Int.tmod_eq_emod_of_nonneg (Int.ediv_nonneg (da.at j).1 (Int.pow_nonneg (by omega)))]; rfl
          rw [eb]
          clear eb
          have bt := bit_in a j k
          have hcb1 : Cells (w3.alloc (.cells #[.int .u64 (bitN a j k)] 22)) (some ⟨w3.heap.size, 0, none⟩) (u64s [bitN a j k]) :=
            Cells.of_own (World.ownsRow_lit (base := 0) (size := 1) w3 #[.int .u64 (bitN a j k)] 1 (Nat.zero_le _) (by unfold maxLen; omega) rfl)
          have hdb : Digs [bitN a j k] := by intro x hx; simp at hx; subst hx; omega
          have hl2 : (sumD rest rest).length = rest.length + 1 := by simp [sumD, sumK, lonD]
          refine (Sum_any S (some ⟨w3.heap.size, 0, none⟩) cs 1 (sumD rest rest) [bitN a j k] _ (by omega) (by simp) (sum_digs _ _) hdb ((Cells.of_own ho3.out).alloc _) hcb1).mono ?_
          rintro _ w4 ⟨S2, cs2, rfl, hb4, ho4⟩
          obtain ⟨mid, hmid⟩ : ∃ mid, mid = sumD (sumD rest rest) [bitN a j k] := ⟨_, rfl⟩
          rw [← hmid] at ho4 ⊢
          have vmid : val mid = 2 * val rest + bitN a j k := by
            rw [hmid, sum_val (sum_digs _ _) hdb, sum_val HR.out.digs HR.out.digs, val_one]; omega
          have lmid : mid.length ≤ rest.length + 2 := by
            have : mid.length = lonD (sumD rest rest) [bitN a j k] + 1 := by simp [hmid, sumD, sumK]
            unfold lonD at this
            simp only [hl2, List.length_cons, List.length_nil] at this
            split at this <;> omega
          have dmid : Digs mid := by rw [hmid]; exact sum_digs _ _
          have hbw4 : Below w3.heap.size w3 w4 := (Below.refl _ w3).alloc (Nat.le_refl _) _ |>.trans (hb4.mono (by simp))
          have B4 := hid (below_trans' HD.out.below (below_trans' hb3.out hbw4))
          have O4 := hid (own_below HD.out.own (below_trans' hb3.out hbw4) (Nat.le_refl _))
          have lt4 := (O4.out.lt g rfl).2
          have g3 : g < w3.heap.size := Nat.lt_of_lt_of_le hgw hb3.out.size
          have N4 : ∀ a, S2 = some a → a.block ≠ g := by
            intro a ha
            subst ha
            have := (ho4.lt a.block rfl).1
            simp at this
            omega
          have R4 := hid (RestW.mk (Cells.of_own ho4) N4 (own_cap ho4) dmid)
          have vmid := hid vmid
          clear hmid hl2 hdb hcb1 hbw4 N4 hb4 ho4 hb3 ho3 dmid
          go_wp2_with fail
          refine (Less_any S2 B cs2 cb mid b w4 (by omega) (by omega) R4.out.digs db R4.out.cells (hb.below B4.out)).mono ?_
          rintro _ _ ⟨rfl, x5, rfl⟩
          by_cases hlt : val mid < val b
          · have hc : cmpF (val mid) (val b) = -1 := by simp [cmpF, hlt]
            have HN4 := hid (HN.out.less Hv.out (by omega) vmid.out hlt)
            have D5 := hid (DivW.mk (RowKit.Below.past B4.out x5) (own_past O4.out x5))
            have R5 := hid (RestW.mk (R4.out.cells.past x5) R4.out.ne R4.out.cap R4.out.digs)
            rw [hc]
            go_wp2
            have N5 := HN4
            go_loop [6] (fun r => ∃ n : Nat, n ≤ mid.length ∧ r = .slice S2 n cs2 ∧ Hid (val (mid.take n) = val mid)) (fun r => lenOf r)
            case atStart => exact ⟨_, Nat.le_refl _, rfl, hid (by rw [List.take_length])⟩
            case round =>
              obtain ⟨n, hn, rfl, HT⟩ := hrel
              have hcs := R5.out.cap
              cases n with
              | zero =>
                go_wp2
                go_roundw
                case rel => exact ⟨k, S2, cs2, out, [], rfl, by omega, rfl, by simp, D5, hid ⟨Cells.nil _ _, R5.out.ne, Nat.zero_le _, (fun _ h => by cases h)⟩, hid (N5.out.same (by simpa using HT.out))⟩
                case measure => simp [intOf]
              | succ n =>
                obtain ⟨b2, o2, rfl, hc2⟩ := u64_at R5.out.cells (show n < mid.length by omega)
                have en : ((n + 1 : Nat) : Int) - 1 = (n : Int) := by omega
                rcases beq_cases (atD mid n) 0 with hz | hz
                · have HT' := hid (show val (mid.take n) = val mid by rw [← HT.out]; exact (take_val (by omega) (by simpa using hz)).symm)
                  go_wp2
                  go_round
                  case rel => exact ⟨n, by omega, by go_num, HT'⟩
                  case measure => simp [lenOf]
                · go_wp2
                  go_roundw
                  case rel => exact ⟨k, _, cs2, out, mid.take (n + 1), rfl, by omega, by simp [Nat.min_eq_left hn], by simp; omega, D5, hid ⟨by rw [u64s_take]; exact R5.out.cells.take _, R5.out.ne, by simp; omega, (fun x h => R5.out.digs x (List.mem_of_mem_take h))⟩, hid (N5.out.same HT.out)⟩
                  case measure => simp [intOf]
          · have hc : 0 ≤ cmpF (val mid) (val b) := by unfold cmpF; simp [hlt]; split <;> omega
            have hge : val b ≤ 2 * val rest + bitN a j k := by have := vmid.out; omega
            generalize cmpF (val mid) (val b) = c at *
            go_wp2_with fail
            refine (Minus_any S2 B cs2 cb mid b _ (by omega) (by omega) R4.out.digs db (R4.out.cells.past x5) ((hb.below B4.out).past x5)).mono ?_
            rintro _ w6 ⟨S3, cs3, rfl, hb6, ho6⟩
            have hvm : val (minD mid b) = 2 * val rest + bitN a j k - val b := by rw [min_val R4.out.digs db hlt, vmid.out]
            obtain ⟨n1, n2, n3⟩ := HN.out.more Hv.out (by omega) (by rw [EA.out]; omega) hvm hge
            have B6 : Below w4.heap.size w4 w6 := (w4.below_past x5).trans (hb6.mono (by simp [go_sem]))
            have O6 := own_below O4.out B6 (Nat.le_refl _)
            have lt6 := (O6.lt g rfl).2
            have hlo : out.length = la := by rw [HN.out.ln, EA.out]
            have hp : w6.cell? ⟨g, j, none⟩ = some (.int .u64 (atD out j)) := by
              rw [O6.cellAt j (by omega)]
              simp [u64s, atD, show j < out.length by omega]
            have hf := O6.frozenAt j
            have p2 : (0 : Int) ≤ 2 ^ k := Int.pow_nonneg (by omega)
            have p3 : (2 : Int) ^ k < 65536 := by omega
            have e1 : IntKind.u64.wrap (2 ^ k) = 2 ^ k := by rw [IntKind.wrap_u64]; omega
            have e2 : IntKind.u64.wrap (atD out j + 2 ^ k) = atD out j + 2 ^ k := by rw [IntKind.wrap_u64]; omega
            obtain ⟨o', ho'⟩ : ∃ o', o' = out.set j (atD out j + 2 ^ k) := ⟨_, rfl⟩
            rw [← ho'] at n1
            have S6 := O6.stored j (.int .u64 (atD out j + 2 ^ k))
            have D6 : DivW w (w6.setCell ⟨g, j, none⟩ (.int .u64 (atD out j + 2 ^ k))) g o' :=
              ⟨(below_trans' B4.out B6).setCell (by rw [Hg.out]; exact Nat.le_refl _) _, by
                have : u64s o' = (u64s out).set j (.int .u64 (atD out j + 2 ^ k)) := by rw [ho']; simp [u64s, List.map_set]
                rw [this, show o'.length = out.length by rw [ho']; simp]
                exact S6.1⟩
            have N3 : ∀ a, S3 = some a → a.block ≠ g := by
              intro a ha
              subst ha
              have := (ho6.lt a.block rfl).1
              simp [go_sem] at this
              omega
            have lmin : (minD mid b).length ≤ 100 + 32 * (la - (j + 1)) + 2 * (16 - k) := by
              have : (minD mid b).length = lonD mid b := by simp [minD, minK]
              rw [this]
              unfold lonD
              split <;> omega
            have R6 : RestW (w6.setCell ⟨g, j, none⟩ (.int .u64 (atD out j + 2 ^ k))) g S3 cs3 (minD mid b) :=
              ⟨Cells.setCell_ne (Cells.of_own ho6) N3 _, N3, own_cap ho6, minD_digs _ _⟩
            have D6 := hid D6
            have R6 := hid R6
            have N6 := hid n1
            have n2 := hid n2
            clear hb6 ho6 n1 B6 O6 S6 N3 ho'
            obtain ⟨l', hl'⟩ : ∃ l', l' = minD mid b := ⟨_, rfl⟩
            rw [← hl'] at R6 N6 hvm lmin ⊢
            clear hl'
            go_wp2_with fail
            go_region
            have D5 := hid (DivW.mk D6.out.below.drew' D6.out.own.drew)
            have R5 := hid (RestW.mk R6.out.cells.drew R6.out.ne R6.out.cap R6.out.digs)
            have N5 := N6
            clear D6 R6 hp hf
            go_wp2
            go_loop [6] (fun r => ∃ n : Nat, n ≤ l'.length ∧ r = .slice S3 n cs3 ∧ Hid (val (l'.take n) = val l')) (fun r => lenOf r)
            case atStart => exact ⟨_, Nat.le_refl _, rfl, hid (by rw [List.take_length])⟩
            case round =>
              obtain ⟨n, hn, rfl, HT⟩ := hrel
              have hcs := R5.out.cap
              cases n with
              | zero =>
                go_wp2
                go_roundw
                case rel => exact ⟨k, S3, cs3, o', [], rfl, by omega, rfl, by simp, D5, hid ⟨Cells.nil _ _, R5.out.ne, Nat.zero_le _, (fun _ h => by cases h)⟩, hid (N5.out.same (by simpa using HT.out))⟩
                case measure => simp [intOf]
              | succ n =>
                obtain ⟨b2, o2, rfl, hc2⟩ := u64_at R5.out.cells (show n < l'.length by omega)
                have en : ((n + 1 : Nat) : Int) - 1 = (n : Int) := by omega
                rcases beq_cases (atD l' n) 0 with hz | hz
                · have HT' := hid (show val (l'.take n) = val l' by rw [← HT.out]; exact (take_val (by omega) (by simpa using hz)).symm)
                  go_wp2
                  go_round
                  case rel => exact ⟨n, by omega, by go_num, HT'⟩
                  case measure => simp [lenOf]
                · go_wp2
                  go_roundw
                  case rel => exact ⟨k, _, cs3, o', l'.take (n + 1), rfl, by omega, by simp [Nat.min_eq_left hn], by simp; omega, D5, hid ⟨by rw [u64s_take]; exact R5.out.cells.take _, R5.out.ne, by simp; omega, (fun x h => R5.out.digs x (List.mem_of_mem_take h))⟩, hid (N5.out.same HT.out)⟩
                  case measure => simp [intOf]
end Go.Proofs.Ytpihkagmkmjfpaa
