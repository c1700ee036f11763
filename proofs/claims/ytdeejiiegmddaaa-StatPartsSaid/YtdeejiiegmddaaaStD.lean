/-
  Layer 25: Locks, by the program. No condition.
-/
import Derived.Test.YtdeejiiegmddaaaStC
import Derived.Test.YtdeejiiegmddaaaRowPut
namespace Go.Proofs.Ytdeejiiegmddaaa
open Go Go.RowKit
structure Ct where
  a : Int
  b : Int
  r : Int
  d : Int
  e : Int
instance : Inhabited Ct := ⟨⟨0, 0, 0, 0, 0⟩⟩
abbrev tCt : TypeId := 34
def ctV (x : Ct) : List Value := [.int .i64 x.a, .int .i64 x.b, .int .i64 x.r, .int .i64 x.d, .int .i64 x.e]
theorem ctV_length (x : Ct) : (ctV x).length = 5 := rfl
def ctA (l : List Ct) (k : Nat) : Ct := l[k]?.getD default
theorem ct_get {l : List Ct} {k : Nat} (h : k < l.length) : l[k]? = some (ctA l k) := by simp [ctA, h]
/-- What an event of a kind does to a count. -/
def bumpF (c : Ct) (k : Int) : Ct :=
  if k = 4 then ⟨c.a + 1, c.b, c.r, c.d, c.e⟩ else if k = 6 then ⟨c.a, c.b + 1, c.r, c.d, c.e⟩ else if k = 5 then ⟨c.a, c.b, c.r + 1, c.d, c.e⟩
  else if k = 12 then ⟨c.a, c.b, c.r, c.d + 1, c.e⟩ else if k = 8 then ⟨c.a, c.b, c.r, c.d, c.e + 1⟩ else c
def lockF (L : List Ct) (x : Ev) : List Ct := if 0 ≤ x.lock ∧ x.lock < 8 then L.set x.lock.toNat (bumpF (ctA L x.lock.toNat) x.kind) else L
def locK (l : List Ev) : Nat → List Ct
  | 0 => List.replicate 8 ⟨0, 0, 0, 0, 0⟩
  | k + 1 => lockF (locK l k) (evA l k)
theorem locK_length (l : List Ev) : ∀ k, (locK l k).length = 8
  | 0 => rfl
  | k + 1 => by rw [locK, lockF]; split <;> simp [locK_length l k]
structure CtIn (c : Ct) (k : Nat) : Prop where
  a : 0 ≤ c.a ∧ c.a ≤ k
  b : 0 ≤ c.b ∧ c.b ≤ k
  r : 0 ≤ c.r ∧ c.r ≤ k
  d : 0 ≤ c.d ∧ c.d ≤ k
  e : 0 ≤ c.e ∧ c.e ≤ k
theorem CtIn.succ {c : Ct} {k : Nat} (h : CtIn c k) : CtIn c (k + 1) := by
  obtain ⟨h1, h2, h3, h4, h5⟩ := h
  constructor <;> omega
theorem CtIn.bump {c : Ct} {k : Nat} (h : CtIn c k) (q : Int) : CtIn (bumpF c q) (k + 1) := by
  obtain ⟨h1, h2, h3, h4, h5⟩ := h
  unfold bumpF
  (repeat' split) <;> constructor <;> (try dsimp only) <;> omega
theorem locK_in (l : List Ev) : ∀ (k i : Nat), CtIn (ctA (locK l k) i) k
  | 0, i => by
    have : ctA (locK l 0) i = ⟨0, 0, 0, 0, 0⟩ := by
      unfold ctA locK
      rw [List.getElem?_replicate]
      split <;> rfl
    rw [this]
    constructor <;> simp
  | k + 1, i => by
    have h1 := locK_in l k i
    rw [locK, lockF]
    split
    · rename_i hr
      have h2 := locK_in l k (evA l k).lock.toNat
      unfold ctA
      rw [List.getElem?_set]
      split
      · rw [if_pos (by rw [locK_length]; omega)]
        exact h2.bump _
      · exact h1.succ
    · exact h1.succ
theorem own_of_rec {w : World} {B g : Nat} {e : TypeId} {size n : Nat} {xs : List Value} (h : Rec w g e xs.toArray) (hB : B ≤ g) (hl : xs.length = n * size) (hn : n ≤ maxLen) : w.ownsRow B e size (.slice (some ⟨g, 0, none⟩) n n) n xs :=
  ⟨hl, .inr ⟨g, n, xs.toArray, rfl, hB, h, Nat.le_refl _, hn, by simp [hl], by simp [← hl]⟩⟩
/-- One cell of one of a row. -/
theorem rec_put1 {α : Type} {f : α → List Value} {c : Nat} (hf : ∀ x, (f x).length = c) (hc : 0 < c) {w : World} {g : Nat} {t : TypeId} {l : List α} (h : Rec w g t (tab f l).toArray) {k j : Nat} {x y : α} {u : Value} (hk : l[k]? = some x) (hj : j < c) (hy : f y = (f x).set j u) :
    Rec (w.setCell ⟨g, k * c + j, none⟩ u) g t (tab f (l.set k y)).toArray := by
  have h7 := h.set (k * c + j) u
  unfold Rec at h7 ⊢
  rw [h7, ← tab_set1 hf hc hk hj hy]
  simp
theorem rec_get1 {α : Type} {f : α → List Value} {c : Nat} (hf : ∀ x, (f x).length = c) {w : World} {g : Nat} {t : TypeId} {l : List α} (h : Rec w g t (tab f l).toArray) {k j : Nat} {x : α} (hk : l[k]? = some x) (hj : j < c) :
    w.cell? ⟨g, k * c + j, none⟩ = (f x)[j]? := by
  rw [Rec.cell h, ← tab_get hf l k x j hk hj]
  simp
theorem info_of {P : Program} {t : TypeId} {z : Option Value} {s b : Nat} (h : (P.info? t).map (fun i => (i.zero, i.size, i.bytes)) = some (z, s, b)) : ∃ i, P.info? t = some i ∧ i.zero = z ∧ i.size = s ∧ i.bytes = b := by
  obtain ⟨i, h1, h2⟩ := Option.map_eq_some_iff.1 h
  simp only [Prod.mk.injEq] at h2
  exact ⟨i, h1, h2.1, h2.2.1, h2.2.2⟩
theorem info_ct : (Try.prog.info? tCt).map (fun i => (i.zero, i.size, i.bytes)) = some (some (.agg (ctV ⟨0, 0, 0, 0, 0⟩).toArray), 5, 40) := by kernel_rfl
set_option maxRecDepth 100000 in
set_option maxHeartbeats 4000000 in
theorem Locks_any (A : Option Addr) (ca n : Nat) (l : List Ev) (en : l.length = n) (hn : n ≤ maxLen) (w : World) (ha : Cells w A (tab evV l)) :
    Calls Try.prog 9 #[.slice A n ca] w (GivesOwn tCt 5 8 (tab ctV (locK l n)) w) := by
  have HA := hid ha
  have EN := hid en
  clear ha en
  obtain ⟨i0, hi, hz0, hz1, hz2⟩ := info_of info_ct
  go_enter Try.func9, Try.ntmps9
  go_upto_region 2 with (at_make; refine wpList_make_full _ rfl (.const (.int .i64 8)) (.const (.int .i64 8)) 26 rfl w.heap.size tCt i0 (.agg (ctV ⟨0, 0, 0, 0, 0⟩).toArray) 5 Try.underlying26 hi hz0 hz1 .i64 .i64 _ _ 8 rfl rfl rfl rfl ?_ ?_ ?_ ?_; (· rw [hz2]; omega); (· unfold maxLen; omega); (· exact Nat.le_refl _); intro w2 hrow hg2)
  obtain ⟨g, hg⟩ : ∃ g, w.heap.size = g := ⟨_, rfl⟩
  have hb2 : Below g w w2 := by rw [← hg]; exact (Below.refl _ w).grown hg2 (Nat.le_refl _) (fun _ h => by cases h)
  have hr2 : w2.ownsRow g tCt 5 (.slice (some ⟨g, 0, none⟩) 8 8) 8 (tab ctV (locK l 0)) := by
    rw [hg] at hrow
    have : (madeCells (Value.agg (ctV ⟨0, 0, 0, 0, 0⟩).toArray).cells (8 * 5)).toList = tab ctV (locK l 0) := by kernel_rfl
    rw [this] at hrow
    exact hrow
  have H0 := hid (And.intro hb2 hr2)
  have HG := hid hg
  rw [hg]
  clear hb2 hr2 hrow hg2 hg hi hz0 hz1 hz2
  go_wp2_with fail
  go_loopw [5, 6, 10] (fun _ _ v wr => ∃ k : Nat, v = .int .i64 (k : Int) ∧ k ≤ n ∧ Hid (Below g w wr ∧ wr.ownsRow g tCt 5 (.slice (some ⟨g, 0, none⟩) 8 8) 8 (tab ctV (locK l k)))) (fun _ _ v _ => n - (intOf v).toNat)
  case atStart => exact ⟨0, rfl, Nat.zero_le _, H0⟩
  case round =>
    clear H0
    obtain ⟨k, rfl, hk, H⟩ := hrel
    by_cases hlt : k < n
    · obtain ⟨gA, oA, rfl, q0, q1, q2, q3, q4⟩ := ev_at (HA.out.below (by rw [HG.out]; exact H.out.1)) (k := k) (by rw [EN.out]; exact hlt)
      have HT := hid (show locK l (k + 1) = lockF (locK l k) (evA l k) from rfl)
      have hkl := locK_length l k
      have HIN := hid (locK_in l k)
      obtain ⟨⟨xt, xk, xa, xl, xn⟩, ex⟩ : ∃ z, evA l k = z := ⟨_, rfl⟩
      rw [ex] at HT q0 q1 q2 q3 q4
      simp only at q0 q1 q2 q3 q4
      obtain ⟨L, eL⟩ : ∃ L, locK l k = L := ⟨_, rfl⟩
      rw [eL] at HT hkl HIN H
      have e1 : IntKind.i64.wrap ((k : Int) + 1) = (k : Int) + 1 := by rw [IntKind.wrap_i64]; unfold maxLen at hn; omega
      obtain ⟨K, eK⟩ : ∃ K, wr.heap.size = K := ⟨_, rfl⟩
      obtain ⟨w5, ew5⟩ : ∃ w5, w5 = wr.alloc (.cells (evV ⟨xt, xk, xa, xl, xn⟩).toArray tEv) := ⟨_, rfl⟩
      have hgK : g < K := by rw [← eK]; exact (H.out.2.lt g rfl).2
      have r5 : Rec w5 K tEv (evV ⟨xt, xk, xa, xl, xn⟩).toArray := by rw [ew5, ← eK]; exact Rec.new wr _ _
      have H5 := hid (show Below g w w5 ∧ w5.ownsRow g tCt 5 (.slice (some ⟨g, 0, none⟩) 8 8) 8 (tab ctV L) from by
        rw [ew5]; exact ⟨H.out.1.alloc (by rw [eK]; omega) _, H.out.2.alloc _⟩)
      have EW5 := hid ew5
      have hgl := World.block_lt_of_cell? _ _ q0
      simp only at hgl
      clear ex eL ew5 H
      go_upto_region 5 with (fail)
      change Code.wp _ _ _ _ (wr.alloc (.cells (evV ⟨xt, xk, xa, xl, xn⟩).toArray tEv))
      rw [← EW5.out]
      have d1 := Rec.cell r5 1
      have d3 := Rec.cell r5 3
      have hl5 := r5.lt
      have hne : ¬ K = g := by omega
      have hne2 : ¬ g = K := by omega
      simp [evV] at d1 d3
      clear q0 q1 q2 q3 q4 eK hgl r5
      by_cases h1 : xl < 0
      · have HE : Hid (locK l (k + 1) = L) := hid (by rw [HT.out, lockF, if_neg (by simp only; omega)])
        clear HT
        go_wp2_with fail
        go_roundw
        case rel => exact ⟨k + 1, by go_num, by omega, hid (by rw [HE.out]; exact H5.out)⟩
        case measure => simp [intOf]; omega
      · by_cases h2 : (8 : Int) ≤ xl
        · have HE : Hid (locK l (k + 1) = L) := hid (by rw [HT.out, lockF, if_neg (by simp only; omega)])
          clear HT
          go_wp2_with fail
          go_roundw
          case rel => exact ⟨k + 1, by go_num, by omega, hid (by rw [HE.out]; exact H5.out)⟩
          case measure => simp [intOf]; omega
        · obtain ⟨m, rfl⟩ : ∃ m : Nat, xl = (m : Int) := ⟨xl.toNat, by omega⟩
          have hm : m < 8 := by omega
          have HE : Hid (locK l (k + 1) = L.set m (bumpF (ctA L m) xk)) := hid (by rw [HT.out, lockF, if_pos (by simp only; omega)]; rfl)
          have hLm := ct_get (l := L) (k := m) (by omega)
          have hin := HIN.out m
          obtain ⟨⟨ca, cb, cr, cd, ce⟩, ec⟩ : ∃ z, ctA L m = z := ⟨_, rfl⟩
          rw [ec] at HE hLm hin
          obtain ⟨i1, i2, i3, i4, i5⟩ := hin
          simp only at i1 i2 i3 i4 i5
          have hown := H5.out.2
          have hcell := fun j (hj : j < 5) => (hown.cellAt (m * 5 + j) (by omega)).trans (tab_get ctV_length L m _ j hLm hj)
          have c0 := hcell 0 (by omega)
          have c1 := hcell 1 (by omega)
          have c2 := hcell 2 (by omega)
          have c3 := hcell 3 (by omega)
          have c4 := hcell 4 (by omega)
          simp [ctV] at c0 c1 c2 c3 c4
          have f0 := hown.frozenAt (m * 5)
          have f1 := hown.frozenAt (m * 5 + 1)
          have f2 := hown.frozenAt (m * 5 + 2)
          have f3 := hown.frozenAt (m * 5 + 3)
          have f4 := hown.frozenAt (m * 5 + 4)
          have hgl := (hown.lt g rfl).2
          have HP := hid (fun (j : Nat) (hj : j < 5) (y : Ct) (u : Value) (hy : ctV y = (ctV ⟨ca, cb, cr, cd, ce⟩).set j u) =>
            show Below g w (w5.setCell ⟨g, m * 5 + j, none⟩ u) ∧ (w5.setCell ⟨g, m * 5 + j, none⟩ u).ownsRow g tCt 5 (.slice (some ⟨g, 0, none⟩) 8 8) 8 (tab ctV (L.set m y)) from by
              have hst := H5.out.2.stored (m * 5 + j) u
              rw [tab_set1 ctV_length (by omega) hLm hj hy] at hst
              exact ⟨below_set H5.out.1 (Nat.le_refl _) _ _, hst.1⟩)
          have HL := hid hLm
          clear HT hcell hown hLm ec
          by_cases hk4 : xk = 4
          · subst hk4
            have ew : IntKind.i64.wrap (ca + 1) = ca + 1 := by rw [IntKind.wrap_i64]; unfold maxLen at hn; omega
            go_wp2_with fail
            go_roundw
            case rel => exact ⟨k + 1, by go_num, by omega, hid (by rw [HE.out]; exact HP.out 0 (by omega) ⟨ca + 1, cb, cr, cd, ce⟩ _ rfl)⟩
            case measure => simp [intOf]; omega
          by_cases hk6 : xk = 6
          · subst hk6
            have ew : IntKind.i64.wrap (cb + 1) = cb + 1 := by rw [IntKind.wrap_i64]; unfold maxLen at hn; omega
            go_wp2_with fail
            go_roundw
            case rel => exact ⟨k + 1, by go_num, by omega, hid (by rw [HE.out]; exact HP.out 1 (by omega) ⟨ca, cb + 1, cr, cd, ce⟩ _ rfl)⟩
            case measure => simp [intOf]; omega
          by_cases hk5 : xk = 5
          · subst hk5
            have ew : IntKind.i64.wrap (cr + 1) = cr + 1 := by rw [IntKind.wrap_i64]; unfold maxLen at hn; omega
            go_wp2_with fail
            go_roundw
            case rel => exact ⟨k + 1, by go_num, by omega, hid (by rw [HE.out]; exact HP.out 2 (by omega) ⟨ca, cb, cr + 1, cd, ce⟩ _ rfl)⟩
            case measure => simp [intOf]; omega
          by_cases hk12 : xk = 12
          · subst hk12
            have ew : IntKind.i64.wrap (cd + 1) = cd + 1 := by rw [IntKind.wrap_i64]; unfold maxLen at hn; omega
            go_wp2_with fail
            go_roundw
            case rel => exact ⟨k + 1, by go_num, by omega, hid (by rw [HE.out]; exact HP.out 3 (by omega) ⟨ca, cb, cr, cd + 1, ce⟩ _ rfl)⟩
            case measure => simp [intOf]; omega
          by_cases hk8 : xk = 8
          · subst hk8
            have ew : IntKind.i64.wrap (ce + 1) = ce + 1 := by rw [IntKind.wrap_i64]; unfold maxLen at hn; omega
            go_wp2_with fail
            go_roundw
            case rel => exact ⟨k + 1, by go_num, by omega, hid (by rw [HE.out]; exact HP.out 4 (by omega) ⟨ca, cb, cr, cd, ce + 1⟩ _ rfl)⟩
            case measure => simp [intOf]; omega
          have HE2 : Hid (locK l (k + 1) = L) := hid (by
            rw [HE.out, bumpF, if_neg hk4, if_neg hk6, if_neg hk5, if_neg hk12, if_neg hk8]
            exact List.ext_getElem? fun q => by rw [List.getElem?_set]; split; (· rename_i h; subst h; rw [if_pos (by omega), HL.out]); rfl)
          go_wp2_with fail
          go_roundw
          case rel => exact ⟨k + 1, by go_num, by omega, hid (by rw [HE2.out]; exact H5.out)⟩
          case measure => simp [intOf]; omega
    · obtain rfl : k = n := by omega
      go_wp2_with fail
      go_ret
      exact ⟨_, _, rfl, by rw [HG.out]; exact H.out.1, by rw [HG.out]; exact H.out.2⟩
end Go.Proofs.Ytdeejiiegmddaaa
