/-
  Layer 18: who is active, and the floor. No program in sight.
-/
import Derived.Test.YtookaodcdglhfaaDoorTick
namespace Go.Proofs.YtookaodcdglhfaaDoor
def setP (sl cr fl : Int) (x : Pt) : Pt := ⟨x.w, clampF x.v fl (slackF x.w sl cr), x.h⟩
theorem slack_u64 (n s c : Int) : U64 (slackF n s c) := wrap_u64_word _
theorem setP_ok {sl cr fl : Int} {x : Pt} (hf : U64 fl) (h : U64 x.v ∧ 1 ≤ x.w ∧ x.w ≤ 16) : U64 (setP sl cr fl x).v ∧ 1 ≤ (setP sl cr fl x).w ∧ (setP sl cr fl x).w ≤ 16 :=
  ⟨clamp_u64 h.1 hf (slack_u64 _ _ _), h.2⟩
/-- Those of a set that were not active are brought. -/
def risL (S : Lg) (has : Nat → Bool) : List Pt := S.l.mapIdx fun i x => if has i then setP S.sl S.cr S.fl x else x
theorem ris_length (S : Lg) (has : Nat → Bool) : (risL S has).length = S.l.length := by simp [risL]
theorem ris_pt (S : Lg) (has : Nat → Bool) {k : Nat} (h : k < S.l.length) : pt (risL S has) k = if has k then setP S.sl S.cr S.fl (pt S.l k) else pt S.l k := by
  unfold risL pt
  rw [List.getElem?_mapIdx, List.getElem?_eq_getElem h]
  rfl
theorem ris_ext (S : Lg) {h1 h2 : Nat → Bool} (h : ∀ k, k < S.l.length → h1 k = h2 k) : risL S h1 = risL S h2 := by
  unfold risL
  apply List.ext_getElem?
  intro j
  rw [List.getElem?_mapIdx, List.getElem?_mapIdx]
  by_cases hj : j < S.l.length
  · rw [h j hj]
  · rw [List.getElem?_eq_none (by omega)]; rfl
theorem ris_none (S : Lg) : risL S (fun _ => false) = S.l := by
  unfold risL
  apply List.ext_getElem?
  intro j
  rw [List.getElem?_mapIdx]
  cases S.l[j]? <;> rfl
/-- One more of them. -/
theorem ris_more (S : Lg) (has : Nat → Bool) {k : Nat} (h : k < S.l.length) (hk : has k = false) : (risL S has).set k (setP S.sl S.cr S.fl (pt S.l k)) = risL S (fun i => has i || decide (i = k)) := by
  apply List.ext_getElem?
  intro j
  by_cases e : j = k
  · subst e
    rw [List.getElem?_set_self (by rw [ris_length]; exact h)]
    unfold risL
    rw [List.getElem?_mapIdx, pt_at h]
    simp
  · rw [List.getElem?_set_ne (fun e' => e e'.symm)]
    unfold risL
    rw [List.getElem?_mapIdx, List.getElem?_mapIdx]
    simp [e]
theorem bits_nodup (s : Nat) : (bitsL s).Nodup := List.nodup_range.sublist List.filter_sublist
/-- Those that were handed on so far. -/
def hasL (pre : List Nat) (i : Nat) : Bool := decide (i ∈ pre)
theorem ris_pre (S : Lg) {pre : List Nat} {x s : Nat} (hx : x < S.l.length) (hp : pre ++ [x] <+: bitsL s) : (risL S (hasL pre)).set x (setP S.sl S.cr S.fl (pt S.l x)) = risL S (hasL (pre ++ [x])) ∧ pt (risL S (hasL pre)) x = pt S.l x := by
  have hn : x ∉ pre := by
    have := (bits_nodup s).sublist hp.sublist
    rw [List.nodup_append] at this
    intro hm
    exact this.2.2 x hm x (by simp) rfl
  have h1 : hasL pre x = false := by simp [hasL, hn]
  constructor
  · rw [ris_more S _ hx h1]
    exact ris_ext S fun k _ => by simp [hasL]
  · rw [ris_pt S _ hx, h1]; simp
theorem ris_bits (S : Lg) (hl : S.l.length ≤ 8) (s : Nat) : risL S (hasL (bitsL s)) = risL S (fun i => s.testBit i) := ris_ext S fun k hk => by
  unfold hasL
  by_cases h : s.testBit k = true
  · rw [h]; simp [mem_bits, h]; omega
  · rw [Bool.not_eq_true] at h; rw [h]; simp [mem_bits, h]
def nowF (n s : Nat) : Nat := s &&& (2 ^ n - 1)
theorem now_lt (n s : Nat) : nowF n s < 2 ^ n := by
  have h : nowF n s ≤ 2 ^ n - 1 := Nat.and_le_right
  have := Nat.two_pow_pos n
  omega
theorem now_bit (n s i : Nat) : (nowF n s).testBit i = (s.testBit i && decide (i < n)) := by
  unfold nowF; rw [Nat.testBit_and, Nat.testBit_two_pow_sub_one]
def freshF (n s a : Nat) : Nat := nowF n s &&& (18446744073709551615 - a)
theorem new_bit {n s a i : Nat} (hn : n ≤ 8) (ha : a < 2 ^ n) : (freshF n s a).testBit i = (s.testBit i && decide (i < n) && !(a.testBit i)) := by
  have h8 : 2 ^ n ≤ 2 ^ 8 := Nat.pow_le_pow_right (by omega) hn
  unfold freshF
  rw [Nat.testBit_and, now_bit]
  have e : 18446744073709551615 - a = 2 ^ 64 - (a + 1) := by omega
  rw [e, Nat.testBit_two_pow_sub_succ (by omega)]
  by_cases hi : i < n
  · have : i < 64 := by omega
    simp [hi, this]
  · simp [hi]
def floorF (l : List Pt) (fl : Int) (now : Nat) : Int := match leastF l now with | none => fl | some p => if fl < (pt l p).v then (pt l p).v else fl
def settleF (S : Lg) (s : Nat) : Lg :=
  { S with l := risL S (fun i => s.testBit i && !(S.act.testBit i)), act := nowF S.l.length s, fl := floorF (risL S (fun i => s.testBit i && !(S.act.testBit i))) S.fl (nowF S.l.length s) }
theorem ris_ok {S : Lg} (h : OkG S) (has : Nat → Bool) : ∀ x ∈ risL S has, U64 x.v ∧ 1 ≤ x.w ∧ x.w ≤ 16 := by
  intro x hx
  obtain ⟨i, hi⟩ := List.mem_iff_getElem?.1 hx
  have hlt : i < S.l.length := by have := (List.getElem?_eq_some_iff.1 hi).1; rw [ris_length] at this; exact this
  have e := pt_at (l := risL S has) (k := i) (by rw [ris_length]; exact hlt)
  rw [hi] at e
  injection e with e
  rw [e, ris_pt S has hlt]
  have := h.at hlt
  split
  · exact setP_ok h.fl this
  · exact this
theorem least_lt {l : List Pt} {s p : Nat} (h : leastF l s = some p) : p < l.length := ((leastK_is l (fun i => s.testBit i) l.length (Nat.le_refl _)).2 p h).1
theorem floor_ok {l : List Pt} {fl : Int} (hv : ∀ x ∈ l, U64 x.v) (hf : U64 fl) (s : Nat) : U64 (floorF l fl s) := by
  unfold floorF
  split
  · exact hf
  · rename_i p hp
    have := hv _ (List.mem_of_getElem? (pt_at (least_lt hp)))
    split
    · exact this
    · exact hf
theorem OkG.settle {S : Lg} (h : OkG S) (s : Nat) : OkG (settleF S s) :=
  ⟨by show (risL S _).length ≤ 8; rw [ris_length]; exact h.len, ris_ok h _, h.sl, h.cr, floor_ok (fun x hx => (ris_ok h _ x hx).1) h.fl _, by show nowF S.l.length s < 2 ^ (risL S _).length; rw [ris_length]; exact now_lt _ _⟩
/-- The set that is gone over. -/
theorem ris_new {S : Lg} (h : OkG S) (s : Nat) : risL S (hasL (bitsL (freshF S.l.length s S.act))) = (settleF S s).l := by
  rw [ris_bits S h.len]
  exact ris_ext S fun k hk => by rw [new_bit h.len h.act]; simp [hk]
theorem new_lt {S : Lg} (h : OkG S) {s x : Nat} (hx : x ∈ bitsL (freshF S.l.length s S.act)) : x < S.l.length := by
  have := (mem_bits.1 hx).2
  rw [new_bit h.len h.act] at this
  simp at this
  exact this.1.2
end Go.Proofs.YtookaodcdglhfaaDoor
