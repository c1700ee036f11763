/-
  Layer 35: what is dropped of the row of the best; its first. No condition.
-/
import Derived.Test.YtplkekmegonenaaWinA
namespace Go.Proofs.Ytplkekmegonenaa
open Go.RowKit
/-- The first one goes. -/
theorem BstAt.shift {B : Nat} {w : World} {b q n g off cap : Nat} {cs : Array Value} {vo : Value} {l lo : List It} {y : It} {A' : Option Addr} (hq : q < cs.size) (h : BstAt B w b q cs (.slice (some ⟨g, off, none⟩) (n + 1) cap) (n + 1) (y :: l) vo lo) (hA : A' = if cap = 1 then some ⟨g, off, none⟩ else some ⟨g, off + 2, none⟩) :
    BstAt B (w.setCell ⟨b, q, none⟩ (.slice A' n (cap - 1))) b q (cs.setIfInBounds q (.slice A' n (cap - 1))) (.slice A' n (cap - 1)) n l vo lo := by
  have hr : RowAt w B tI 2 (.slice (some ⟨g, off, none⟩) (n + 1) cap) (n + 1) (itV y ++ tab itV l) := by
    have := h.row
    simpa [tab] using this
  have hr2 := hr.popFront rfl
  rw [← hA] at hr2
  refine ⟨h.big, Rec.set h.rec_ q _, by simp [hq], hr2.setB h.rec_ (by decide) q _, h.oth.setB h.rec_ (by decide) q _, ?_⟩
  rcases h.ap with h0 | h0 | h0
  · exact .inl h0
  · cases h0
  · refine .inr (.inr ?_)
    rw [hA]
    intro he
    apply h0
    rw [he]
    split <;> rfl
structure DrP (B : Nat) (w : World) (b q : Nat) (cs : Array Value) (l : List It) (vo : Value) (lo : List It) (a : Int) (A : Option Addr) (n cap : Nat) (suf : List It) (wr : World) : Prop where
  same : dropB suf a = dropB l a
  bst : BstAt B wr b q (cs.setIfInBounds q (.slice A n cap)) (.slice A n cap) n suf vo lo
  below : Below B w wr
  kept : KeptT b (· = tI) w wr
set_option maxHeartbeats 1000000 in
theorem drop_any (B b q : Nat) (hq : q = 3 ∨ q = 5) (cs : Array Value) (hcs : cs.size = 7) (v : Value) (l : List It) (vo : Value) (lo : List It) (a : Int) (w : World) (h : BstAt B w b q cs v l.length l vo lo) (hB : B ≤ w.heap.size) :
    Calls Try.prog 21 #[.pointer (some ⟨b, q, none⟩), .int .i64 a] w (PushP B b q cs (dropB l a) vo lo w) := by
  obtain ⟨A0, c0, rfl⟩ := h.row.shape
  have hq7 : q < 7 := by omega
  have hqs : ∀ u, (cs.setIfInBounds q u)[q]? = some u := fun u => by simp [hcs, hq7]
  have hcut0 : cs.setIfInBounds q (.slice A0 l.length c0) = cs := by
    have := h.at_
    apply Array.ext
    · simp
    · intro i h1 h2
      rw [Array.getElem_setIfInBounds]
      split
      · subst_vars
        have h3 := (Array.getElem?_eq_some_iff.1 this).2
        exact h3.symm
      · rfl
  have J0 := hid (show DrP B w b q cs l vo lo a A0 l.length c0 l w from ⟨rfl, by rw [hcut0]; exact h, Below.refl _ _, KeptT.refl _ _ _⟩)
  have HQS := hid hqs
  have HCS := hid hcs
  clear h hcut0 hqs hcs
  go_enter Try.func21, Try.ntmps21
  go_wp2_with fail
  go_loopw [4] (fun _ wr => ∃ A n cap suf, Hid (DrP B w b q cs l vo lo a A n cap suf wr)) (fun _ wr => lenAt b q wr)
  case atStart => exact ⟨A0, l.length, c0, l, J0⟩
  case round =>
    clear J0
    obtain ⟨A, n, cap, suf, HP⟩ := hrel
    have q0 : wr.cell? ⟨b, q, none⟩ = some (.slice A n cap) := by rw [Rec.cell HP.out.bst.rec_]; exact HQS.out _
    have f0 : wr.frozen? ⟨b, q, none⟩ = false := Rec.frozen HP.out.bst.rec_ q
    have lt0 := Rec.lt HP.out.bst.rec_
    have hm0 : lenAt b q wr = n := by unfold lenAt; rw [q0]
    have hlen := HP.out.bst.len
    cases suf with
    | nil =>
      obtain rfl : n = 0 := by simpa using hlen.symm
      have HPE := hid (show dropB l a = [] from HP.out.same.symm.trans rfl)
      go_wp2
      refine bodyPost_ret (results_none rfl _ _ _) rfl ?_
      exact ⟨⟨_, rfl⟩, ⟨_, by rw [HPE.out]; exact HP.out.bst⟩, HP.out.below, HP.out.kept⟩
    | cons y t =>
      obtain ⟨j, rfl⟩ : ∃ j, n = j + 1 := ⟨n - 1, by simp at hlen; omega⟩
      have hbst := HP.out.bst
      obtain ⟨g, off, cp, eA, hg, _⟩ := hbst.row.succ (by omega)
      cases eA
      have y1 : wr.cell? ⟨g, off + 1, none⟩ = some (.int .i64 y.2) := by
        rw [hbst.row.at (by omega)]; rfl
      have hcap : 1 ≤ cap := by
        rcases hbst.row.2 with ⟨h, _⟩ | ⟨_, _, _, _, hv, _, _, hnc, _⟩
        · cases h
        · cases hv; omega
      have hB2 : B ≤ wr.heap.size := Nat.le_trans hB HP.out.below.size
      have HBST := hid hbst
      clear hbst hlen hg
      by_cases hya : y.2 < a
      · have HS := hid (show dropB t a = dropB l a by
          rw [← HP.out.same]
          show dropB t a = List.dropWhile _ (y :: t)
          rw [List.dropWhile_cons_of_pos (by simpa using hya)]
          rfl)
        by_cases hc1 : cap = 1
        · subst hc1
          have HSH := hid (HBST.out.shift (A' := some ⟨g, off, none⟩) (by simp [HCS.out, hq7]) rfl)
          go_wp2_with fail
          have hsh := HSH.out
          rw [Array.setIfInBounds_setIfInBounds] at hsh
          exact ⟨⟨_, _, _, t, hid ⟨HS.out, hsh, HP.out.below.setCell (p := ⟨b, q, none⟩) HBST.out.big _, HP.out.kept.trans (KeptT.setB wr b q _ _)⟩⟩, by rw [hm0]; unfold lenAt; rw [Rec.cell hsh.rec_, HQS.out]; simp⟩
        · have HSH := hid (HBST.out.shift (A' := some ⟨g, off + 2, none⟩) (by simp [HCS.out, hq7]) (by rw [if_neg hc1]))
          go_wp2_with fail
          have hsh := HSH.out
          rw [Array.setIfInBounds_setIfInBounds] at hsh
          exact ⟨⟨_, _, _, t, hid ⟨HS.out, hsh, HP.out.below.setCell (p := ⟨b, q, none⟩) HBST.out.big _, HP.out.kept.trans (KeptT.setB wr b q _ _)⟩⟩, by rw [hm0]; unfold lenAt; rw [Rec.cell hsh.rec_, HQS.out]; simp⟩
      · have HPE := hid (show dropB l a = y :: t by
          rw [← HP.out.same]
          show List.dropWhile _ (y :: t) = _
          rw [List.dropWhile_cons_of_neg (by simpa using hya)])
        go_wp2
        refine bodyPost_ret (results_none rfl _ _ _) rfl ?_
        exact ⟨⟨_, rfl⟩, ⟨_, by rw [HPE.out, HBST.out.len]; exact HBST.out⟩, HP.out.below, HP.out.kept⟩
def topF (l : List It) : Int × Bool := match l with | [] => (0, false) | y :: _ => (y.1, true)
theorem top_any (B b q : Nat) (hq : q = 3 ∨ q = 5) (cs : Array Value) (v : Value) (n : Nat) (l : List It) (vo : Value) (lo : List It) (w : World) (h : BstAt B w b q cs v n l vo lo) :
    Calls Try.prog 22 #[.pointer (some ⟨b, q, none⟩)] w (Gives (.tuple #[.int .i64 (topF l).1, .bool (topF l).2]) w) := by
  obtain ⟨A0, c0, rfl⟩ := h.row.shape
  have q0 : w.cell? ⟨b, q, none⟩ = some (.slice A0 n c0) := by rw [Rec.cell h.rec_]; exact h.at_
  have hl := h.len
  cases l with
  | nil =>
    obtain rfl : n = 0 := by simpa using hl.symm
    clear h hl
    go_enter Try.func22, Try.ntmps22
    go_wp2
    go_ret2
    exact Gives.mk rfl (Below.refl _ _)
  | cons y t =>
    obtain ⟨j, rfl⟩ : ∃ j, n = j + 1 := ⟨n - 1, by simp at hl; omega⟩
    obtain ⟨g, off, cp, eA, hg, _⟩ := h.row.succ (by omega)
    cases eA
    have y1 : w.cell? ⟨g, off, none⟩ = some (.int .i64 y.1) := by
      have := h.row.at (j := 0) (by omega)
      rw [Nat.add_zero] at this
      rw [this]; rfl
    clear h hl
    go_enter Try.func22, Try.ntmps22
    go_wp2
    go_ret2
    exact Gives.mk rfl (Below.refl _ _)
end Go.Proofs.Ytplkekmegonenaa
