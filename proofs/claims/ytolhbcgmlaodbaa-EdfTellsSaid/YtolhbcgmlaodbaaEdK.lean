/-
  Layer 42: a core that does works, in memory. No condition.
-/
import Derived.Test.YtolhbcgmlaodbaaEdQ
import Derived.Test.YtolhbcgmlaodbaaEdA
import Derived.Test.YtolhbcgmlaodbaaHpQ
import Derived.Test.YtolhbcgmlaodbaaAppC
namespace Go.Proofs.Ytolhbcgmlaodbaa
open Go Go.RowKit Go.Proofs.Ytolhbcgmlaodbaa.HpI
theorem set_self {α : Type} {l : List α} {j : Nat} {x : α} (h : l[j]? = some x) : l.set j x = l := by
  obtain ⟨hj, rfl⟩ := List.getElem?_eq_some_iff.1 h
  exact List.set_getElem_self hj
abbrev tPl : TypeId := 48
/-- The blocks of it. -/
def footE (pb b mb : Nat) (E : List Jb) (W : World) (k : Nat) : Prop := k = pb ∨ hF b mb W k ∨ ∃ e ∈ E, k = e.blk
structure PS (B : Nat) (W : World) (pb b mb : Nat) (A : Option Addr) (n ca : Nat) (E : List Jb) : Prop where
  big : B ≤ pb
  rc : Rec W pb tPl #[.slice A n ca, .pointer (some ⟨b, 0, none⟩)]
  hp : HP B W b mb 4096 (E.map Jb.it)
  bx : ∀ e ∈ E, Boxed W e.blk 3 (.int .i64 e.left) ∧ B ≤ e.blk ∧ ¬ hF b mb W e.blk ∧ e.blk ≠ pb
  nd : (E.map (·.blk)).Nodup
  pn : ¬ hF b mb W pb
section
variable {B : Nat} {W W' : World} {pb b mb : Nat} {A : Option Addr} {n ca : Nat} {E : List Jb}
theorem PS.foot (h : PS B W pb b mb A n ca E) {k : Nat} (hk : footE pb b mb E W k) : B ≤ k ∧ k < W.heap.size := by
  rcases hk with rfl | hk | ⟨e, he, rfl⟩
  · exact ⟨h.big, h.rc.lt⟩
  · exact hF_lt h.hp hk
  · obtain ⟨a, b, _⟩ := h.bx e he
    exact ⟨b, a.lt⟩
theorem PS.ks {X : Nat → Prop} (h : PS B W pb b mb A n ca E) (hk : KS X W W') (hX : ∀ k, footE pb b mb E W k → ¬ X k) : PS B W' pb b mb A n ca E ∧ ∀ k, footE pb b mb E W' k → footE pb b mb E W k := by
  obtain ⟨h1, h2⟩ := h.hp.ks hk (fun k hf => hX k (.inr (.inl hf)))
  refine ⟨⟨h.big, (hk.block pb h.rc.lt (hX pb (.inl rfl))).trans h.rc, h1, fun e he => ?_, h.nd, fun e => h.pn (h2 _ e)⟩, fun k hf => hf.imp id (fun g => g.imp (h2 k) id)⟩
  obtain ⟨a, b, c, d⟩ := h.bx e he
  exact ⟨hk.boxed (hX _ (.inr (.inr ⟨e, he, rfl⟩))) a, b, fun g => c (h2 _ g), d⟩
theorem ks_of_kept {X : Nat → Prop} (h : Kept X W W') : KS X W W' := ⟨h.os, h.tape, h.output, h.size, h.block⟩
theorem kept_of_ks {X : Nat → Prop} (h : KS X W W') : Kept X W W' := ⟨h.os, h.tape, h.output, h.size, h.block⟩
/-- One job has had a tick. -/
theorem PS.dec (h : PS B W pb b mb A n ca E) {j : Nat} {e : Jb} (he : E[j]? = some e) (v : Int) : PS B (W.setCell ⟨e.blk, 0, none⟩ (.int .i64 v)) pb b mb A n ca (E.set j { e with left := v }) ∧ ∀ k, footE pb b mb (E.set j { e with left := v }) (W.setCell ⟨e.blk, 0, none⟩ (.int .i64 v)) k → footE pb b mb E W k := by
  have hm := List.mem_of_getElem? he
  obtain ⟨hj, hej⟩ := List.getElem?_eq_some_iff.1 he
  obtain ⟨hb, hB, hn, hp⟩ := h.bx e hm
  have hk : KS (fun k => k = e.blk) W (W.setCell ⟨e.blk, 0, none⟩ (.int .i64 v)) := (KS.refl (fun k => k = e.blk) W).setCell (b := e.blk) rfl 0 _
  obtain ⟨h1, h2⟩ := h.hp.ks hk (fun k hf g => hn (g ▸ hf))
  have hit : (E.set j { e with left := v }).map Jb.it = E.map Jb.it := by
    rw [List.map_set]
    exact set_self (by rw [List.getElem?_map, he]; rfl)
  have hbl : (E.set j { e with left := v }).map (·.blk) = E.map (·.blk) := by
    rw [List.map_set]
    exact set_self (by rw [List.getElem?_map, he]; rfl)
  refine ⟨⟨h.big, (hk.block pb h.rc.lt (fun g => hp g.symm)).trans h.rc, by rw [hit]; exact h1, fun f hf => ?_, by rw [hbl]; exact h.nd, fun g => h.pn (h2 _ g)⟩, fun k hf => ?_⟩
  · obtain ⟨i, hi⟩ := List.mem_iff_getElem?.1 hf
    rw [List.getElem?_set] at hi
    by_cases hij : j = i
    · rw [if_pos hij] at hi
      rw [if_pos (by omega)] at hi
      obtain rfl := Option.some.inj hi
      exact ⟨hb.set _, hB, fun g => hn (h2 _ g), hp⟩
    · rw [if_neg hij] at hi
      obtain ⟨a1, a2, a3, a4⟩ := h.bx f (List.mem_of_getElem? hi)
      obtain ⟨hi2, hfi⟩ := List.getElem?_eq_some_iff.1 hi
      refine ⟨hk.boxed (fun g => ?_) a1, a2, fun g => a3 (h2 _ g), a4⟩
      have hb1 : i < (E.map (·.blk)).length := by rw [List.length_map]; exact hi2
      have hb2 : j < (E.map (·.blk)).length := by rw [List.length_map]; exact hj
      refine hij ((List.getElem_inj (h₀ := hb2) (h₁ := hb1) h.nd).1 ?_)
      rw [List.getElem_map, List.getElem_map, hfi, hej]
      exact g.symm
  · rcases hf with rfl | hf | ⟨f, hf, rfl⟩
    · exact .inl rfl
    · exact .inr (.inl (h2 k hf))
    · have : f.blk ∈ (E.set j { e with left := v }).map (·.blk) := List.mem_map_of_mem hf
      rw [hbl] at this
      obtain ⟨g, hg, e2⟩ := List.mem_map.1 this
      exact .inr (.inr ⟨g, hg, e2.symm⟩)
/-- One job is taken off. -/
theorem PS.off (h : PS B W pb b mb A n ca E) {j : Nat} {e : Jb} (he : E[j]? = some e) {L' : List (Hp.It Nat)} (hp : (e.it :: L').Perm (E.map Jb.it)) (hH : HP B W' b mb 4096 L') (hk : HKept b mb W W') : PS B W' pb b mb A n ca (E.eraseIdx j) ∧ ∀ k, footE pb b mb (E.eraseIdx j) W' k → footE pb b mb E W k := by
  obtain ⟨hj, hej⟩ := List.getElem?_eq_some_iff.1 he
  have hpe : (e :: E.eraseIdx j).Perm E := by rw [← hej]; exact erase_perm E j hj
  have hpm : (e.it :: (E.eraseIdx j).map Jb.it).Perm (E.map Jb.it) := hpe.map Jb.it
  have hL : L'.Perm ((E.eraseIdx j).map Jb.it) := (hp.trans hpm.symm).cons_inv
  have hs : (E.eraseIdx j).Sublist E := List.eraseIdx_sublist E j
  have h2 : ∀ k, hF b mb W' k → hF b mb W k := fun k hf => hF_kept hk hf
  have hks := ks_of_kept hk.kept
  refine ⟨⟨h.big, (hks.block pb h.rc.lt h.pn).trans h.rc, hH.perm hL, fun f hf => ?_, h.nd.sublist (hs.map _), fun g => h.pn (h2 _ g)⟩, fun k hf => hf.imp id (fun g => g.imp (h2 k) (fun ⟨f, a, c⟩ => ⟨f, hs.subset a, c⟩))⟩
  obtain ⟨a1, a2, a3, a4⟩ := h.bx f (hs.subset hf)
  exact ⟨hks.boxed a3 a1, a2, fun g => a3 (h2 _ g), a4⟩
/-- Some jobs are taken off. -/
theorem PS.filt (h : PS B W pb b mb A n ca E) (p : Jb → Bool) {L' : List (Hp.It Nat)} (hp : L'.Perm ((E.filter p).map Jb.it)) {T : Nat → Prop} (hH : HP B W' b mb 4096 L') (hF' : ∀ k, hF b mb W' k → hF b mb W k) (hk : KS (fun k => hF b mb W k ∨ T k) W W') (hT : ∀ k, footE pb b mb E W k → ¬ T k) : PS B W' pb b mb A n ca (E.filter p) ∧ ∀ k, footE pb b mb (E.filter p) W' k → footE pb b mb E W k := by
  have hs : (E.filter p).Sublist E := List.filter_sublist
  refine ⟨⟨h.big, (hk.block pb h.rc.lt (fun g => g.elim h.pn (hT _ (.inl rfl)))).trans h.rc, hH.perm hp, fun f hf => ?_, h.nd.sublist (hs.map _), fun g => h.pn (hF' _ g)⟩, fun k hf => hf.imp id (fun g => g.imp (hF' k) (fun ⟨f, a, c⟩ => ⟨f, hs.subset a, c⟩))⟩
  obtain ⟨a1, a2, a3, a4⟩ := h.bx f (hs.subset hf)
  exact ⟨hk.boxed (fun g => g.elim a3 (hT _ (.inr (.inr ⟨f, hs.subset hf, rfl⟩)))) a1, a2, fun g => a3 (hF' _ g), a4⟩
/-- One comes. -/
theorem PS.on (h : PS B W pb b mb A n ca E) (e : Jb) (hx : Boxed W e.blk 3 (.int .i64 e.left)) (hB : B ≤ e.blk) (hn : ¬ footE pb b mb E W e.blk) (hH : HP B W' b mb 4096 (e.it :: E.map Jb.it)) (hk : HGrew b mb W W') : PS B W' pb b mb A n ca (E ++ [e]) ∧ ∀ k, footE pb b mb (E ++ [e]) W' k → footE pb b mb E W k ∨ k = e.blk ∨ W.heap.size ≤ k := by
  have hks := ks_of_kept hk.kept
  have h2 : ∀ k, hF b mb W' k → hF b mb W k ∨ W.heap.size ≤ k := fun k hf => by
    rcases hf with g | g | g
    · exact .inl (.inl g)
    · exact .inl (.inr (.inl g))
    · exact (hk.row k g).imp (fun g => .inr (.inr g)) id
  have hlt := hx.lt
  refine ⟨⟨h.big, (hks.block pb h.rc.lt h.pn).trans h.rc, hH.perm ?_, fun f hf => ?_, ?_, fun g => ?_⟩, fun k hf => ?_⟩
  · rw [List.map_append]
    exact (List.perm_append_comm (l₁ := [e.it]) (l₂ := E.map Jb.it))
  · rcases List.mem_append.1 hf with hf | hf
    · obtain ⟨a1, a2, a3, a4⟩ := h.bx f hf
      refine ⟨hks.boxed a3 a1, a2, fun g => ?_, a4⟩
      rcases h2 _ g with g | g
      · exact a3 g
      · have := a1.lt; omega
    · obtain rfl := List.mem_singleton.1 hf
      refine ⟨hks.boxed (fun g => hn (.inr (.inl g))) hx, hB, fun g => ?_, fun g => hn (.inl g)⟩
      rcases h2 _ g with g | g
      · exact hn (.inr (.inl g))
      · omega
  · rw [List.map_append, List.nodup_append]
    refine ⟨h.nd, by simp, fun a ha c hc g => ?_⟩
    obtain ⟨f, hf, rfl⟩ := List.mem_map.1 ha
    simp only [List.map_cons, List.map_nil, List.mem_singleton] at hc
    subst hc
    exact hn (.inr (.inr ⟨f, hf, g.symm⟩))
  · rcases h2 _ g with g | g
    · exact h.pn g
    · have := h.rc.lt; omega
  · rcases hf with g | g | ⟨f, hf, rfl⟩
    · exact .inl (.inl g)
    · exact (h2 k g).elim (fun g => .inl (.inr (.inl g))) (fun g => .inr (.inr g))
    · rcases List.mem_append.1 hf with hf | hf
      · exact .inl (.inr (.inr ⟨f, hf, rfl⟩))
      · obtain rfl := List.mem_singleton.1 hf
        exact .inr (.inl rfl)
end
/-- A core, whole: as the document's list. -/
def PSO (l : List Wk) (t i : Nat) (B pb b mb : Nat) (A : Option Addr) (n ca : Nat) (D : List Dj) : Ob := fun W F => ∃ E : List Jb, E.map Jb.dj = D ∧ TI l t i E ∧ PS B W pb b mb A n ca E ∧ (∀ k, footE pb b mb E W k → F k) ∧ ∀ k, F k → B ≤ k ∧ k < W.heap.size
theorem PSO_is {l : List Wk} {t i B pb b mb : Nat} {A : Option Addr} {n ca : Nat} {D : List Dj} : IsO B (PSO l t i B pb b mb A n ca D) := by
  refine ⟨fun ⟨E, h1, h2, h3, h4, h5⟩ hk hX => ?_, fun ⟨E, h1, h2, h3, h4, h5⟩ hF => h5 _ hF⟩
  obtain ⟨g1, g2⟩ := h3.ks (ks_of_kept hk) (fun k hf => hX k (h4 k hf))
  exact ⟨E, h1, h2, g1, fun k hf => h4 k (g2 k hf), fun k hF => ⟨(h5 k hF).1, Nat.lt_of_lt_of_le (h5 k hF).2 hk.size⟩⟩
/-- What an act leaves. -/
theorem PSO.after {l : List Wk} {t' i' B pb b mb : Nat} {A : Option Addr} {n ca : Nat} {D' : List Dj} {W W' : World} {F : Nat → Prop} {E' : List Jb} (hF : ∀ k, F k → B ≤ k ∧ k < W.heap.size) (hB : B ≤ W.heap.size) (h1 : E'.map Jb.dj = D') (h2 : TI l t' i' E') (h3 : PS B W' pb b mb A n ca E') (h4 : ∀ k, footE pb b mb E' W' k → F k ∨ W.heap.size ≤ k) (hk : Kept F W W') : After (PSO l t' i' B pb b mb A n ca D') F W W' := by
  refine ⟨fun k => F k ∨ (W.heap.size ≤ k ∧ k < W'.heap.size), ⟨E', h1, h2, h3, fun k hf => (h4 k hf).imp id (fun g => ⟨g, (h3.foot hf).2⟩), fun k hf => ?_⟩, fun k hf => hf.imp id (fun g => g.1), hk⟩
  rcases hf with hf | hf
  · exact ⟨(hF k hf).1, Nat.lt_of_lt_of_le (hF k hf).2 hk.size⟩
  · exact ⟨by omega, hf.2⟩
end Go.Proofs.Ytolhbcgmlaodbaa
