/-
  Layer 04 (heaps), at this dump: heaps of ints: Move. No condition.
-/
import Derived.Test.YtjhjkchcjpijaaaHpO
namespace Go.Proofs.Ytjhjkchcjpijaaa.HpI
open Go Go.RowKit Go.Proofs.Ytjhjkchcjpijaaa
section
variable {B : Nat} {w w' : World} {b mb : Nat} {most : Int} {l L : List (Hp.It A)}
theorem up_of_ord (h : Hp.Ord l) (i : Nat) : Hp.Up l i := ⟨fun k _ => h k, fun k hk k0 hp i0 => by
  have h1 := h k hk k0
  simp only [hp] at h1
  have := Hp.par_lt k0
  exact Hp.nlt_trans (h i (by omega) i0) h1⟩
theorem dn_put (h : Hp.Ord l) (i : Nat) (y : Hp.It A) : Hp.Dn (l.set i y) i := by
  refine ⟨fun k hk hkp hkl k0 => ?_, fun k hkl k0 hp i0 => ?_⟩
  · have := hkp k0
    have hp := Hp.par_lt k0
    simp at hkl
    rw [List.getElem_set_ne (by omega), List.getElem_set_ne (by omega)]
    exact h k hkl k0
  · have h1 := Hp.par_lt k0
    have h2 := Hp.par_lt i0
    simp at hkl
    rw [List.getElem_set_ne (by omega), List.getElem_set_ne (by omega)]
    exact (up_of_ord h i).bel k hkl k0 hp i0
theorem erase_perm {α : Type} : ∀ (l : List α) (i : Nat) (h : i < l.length), (l[i] :: l.eraseIdx i).Perm l
  | x :: l, 0, _ => List.Perm.refl _
  | x :: l, i + 1, h => by
    simp only [List.getElem_cons_succ, List.eraseIdx_cons_succ]
    exact (List.Perm.swap _ _ _).trans (List.Perm.cons _ (erase_perm l i (by simpa using h)))
theorem map_set_id {i : Nat} {x : Hp.It A} (hx : l[i]? = some x) {y : Hp.It A} (hy : y.id = x.id) : (l.set i y).map (·.id) = l.map (·.id) := by
  rw [List.map_set, hy]
  obtain ⟨h1, h2⟩ := List.getElem?_eq_some_iff.1 hx
  apply List.ext_getElem?
  intro k
  rw [List.getElem?_set]
  split
  · rename_i e
    subst e
    simp [h1, h2]
  · rfl
theorem idx_map (h : l.map (·.id) = L.map (·.id)) (z : Int) : idx l z = idx L z := by
  have e : ∀ M : List (Hp.It A), idx M z = ((M.map (·.id)).findIdx? (fun y => y == z)).map fun k => (k : Int) := fun M => by
    unfold idx
    rw [List.findIdx?_map]
    rfl
  rw [e, e, h]
theorem set_perm {i : Nat} {x y : Hp.It A} {L' : List (Hp.It A)} (hx : l[i]? = some x) (hp : l.Perm (x :: L')) : (l.set i y).Perm (y :: L') := by
  obtain ⟨h1, h2⟩ := List.getElem?_eq_some_iff.1 hx
  have e1 : l.Perm (x :: l.eraseIdx i) := by rw [← h2]; exact (erase_perm l i h1).symm
  have e2 : (l.set i y).Perm (y :: l.eraseIdx i) := by
    have h3 := (erase_perm (l.set i y) i (by simpa using h1)).symm
    rw [List.getElem_set_self, List.eraseIdx_set_eq] at h3
    exact h3
  exact e2.trans (List.Perm.cons _ (List.Perm.cons_inv (e1.symm.trans hp)))
/-- What New takes for the most. -/
def mostH (most : Int) : Int := if most < 0 then 0 else if 4096 < most then 4096 else most
def NewPost (B : Nat) (most : Int) (w : World) (e : Ending) (w' : World) : Prop := ∃ b mb, e = .returned (.pointer (some ⟨b, 0, none⟩)) ∧ HP B w' b mb (mostH most) [] ∧ Below w.heap.size w w' ∧ w.heap.size ≤ b ∧ w.heap.size ≤ mb
set_option maxRecDepth 100000 in
set_option maxHeartbeats 4000000 in
theorem New_any (most : Int) (w : World) (hB : B ≤ w.heap.size) :
    Calls Try.prog 20 #[.int .i64 most] w (NewPost B most w) := by
  obtain ⟨m, hm⟩ : ∃ m, mostH most = m := ⟨_, rfl⟩
  have HM := hid hm
  have key : ∀ W : World, W = (w.alloc (.map #[] 0)).alloc (.cells #[.int .i64 m, .slice none 0 0, .map (some w.heap.size)] tH) → HP B W (w.heap.size + 1) w.heap.size m [] ∧ Below w.heap.size w W := by
    rintro _ rfl
    refine ⟨⟨⟨[], ⟨by omega, hB, ⟨none, 0, ?_, rfl, .inl ⟨rfl, rfl⟩⟩, ?_⟩, fun k hk => by simp at hk, List.Perm.refl _⟩, ⟨by simp, by simp, by simp⟩⟩, ((Below.refl _ w).alloc (Nat.le_refl _) _).alloc (by simp) _⟩
    · have := Rec.new (w.alloc (.map #[] 0)) tH #[.int .i64 m, .slice none 0 0, .map (some w.heap.size)]
      simpa using this
    · have := (MapI.made (P := Try.prog) (t := 3) w).below ((Below.refl _ _).alloc (Nat.le_refl _) (.cells #[.int .i64 m, .slice none 0 0, .map (some w.heap.size)] tH)) (by simp)
      exact this.ext fun z => rfl
  have K := hid key
  have hmm := @run_makeMap Try.prog
  unfold mostH at hm
  clear key
  by_cases h1 : most < 0
  · obtain rfl : m = 0 := by omega
    clear hm
    go_enter Try.func20, Try.ntmps20
    go_wp2
    go_ret
    exact ⟨_, _, rfl, by rw [HM.out]; exact (K.out _ rfl).1, (K.out _ rfl).2, by omega, by omega⟩
  · by_cases h2 : 4096 < most
    · obtain rfl : m = 4096 := by omega
      clear hm
      have h3 : 0 ≤ most := by omega
      go_enter Try.func20, Try.ntmps20
      go_wp2
      go_ret
      exact ⟨_, _, rfl, by rw [HM.out]; exact (K.out _ rfl).1, (K.out _ rfl).2, by omega, by omega⟩
    · obtain rfl : m = most := by omega
      clear hm
      have h3 : 0 ≤ m := by omega
      have h4 : m ≤ 4096 := by omega
      go_enter Try.func20, Try.ntmps20
      go_wp2
      go_ret
      exact ⟨_, _, rfl, by rw [HM.out]; exact (K.out _ rfl).1, (K.out _ rfl).2, by omega, by omega⟩
end

section
variable {B : Nat} {w w' : World} {b mb : Nat} {most : Int} {l L : List (Hp.It A)}
set_option maxRecDepth 100000 in
set_option maxHeartbeats 4000000 in
theorem Move_none (h : HP B w b mb most L) (z v : Int) (hz : I64 z) (hn : ¬ z ∈ L.map (·.id)) : Calls Try.prog 25 #[.pointer (some ⟨b, 0, none⟩), .int .i64 z, .int .u64 v] w (Gives (.int .i64 4) w) := by
  obtain ⟨l, a1, -, a3, hlook⟩ := h.look hz
  rw [idx_none_of (fun e => hn ((a3.map _).mem_iff.1 e))] at hlook
  simp only [Option.getD_none, Option.isSome_none] at hlook
  obtain ⟨a, c, q0, q1, q2, -⟩ := a1.cells
  clear h a1 a3 hn q0 q1
  go_enter Try.func25, Try.ntmps25
  go_wp2_with fail
  go_ret
  refine Gives.mk rfl ?_
  (repeat (first | exact Below.refl _ _ | refine RowKit.Below.past ?_ _ | refine RowKit.Below.alloc' ?_ _ | refine RowKit.Below.drew' ?_ | refine RowKit.Below.drewN' ?_ _ | refine RowKit.Below.setCell' ?_ (by simp [go_sem]) _))
set_option maxRecDepth 100000 in
set_option maxHeartbeats 4000000 in
theorem Move_some (h : HP B w b mb most L) (x : Hp.It A) (hx : x ∈ L) (v : Int) (L' : List (Hp.It A)) (hL : L.Perm (x :: L')) (hB : B ≤ w.heap.size) : Calls Try.prog 25 #[.pointer (some ⟨b, 0, none⟩), .int .i64 x.id, .int .u64 v] w
    (fun e w' => e = .returned (.int .i64 0) ∧ HP B w' b mb most (⟨v, x.id, x.x⟩ :: L') ∧ Below B w w' ∧ HKept b mb w w') := by
  obtain ⟨l, a1, a2, a3, hlook⟩ := h.look (h.good.i64 x hx)
  have hgl := h.good.perm a3
  obtain ⟨i, hi, hli⟩ := idx_some_of hgl.nd (a3.mem_iff.2 hx)
  rw [hi] at hlook
  simp only [Option.getD_some, Option.isSome_some] at hlook
  obtain ⟨h1, h2⟩ := List.getElem?_eq_some_iff.1 hli
  obtain ⟨a, c, q0, q1, q2, qs⟩ := a1.cells
  obtain ⟨g, rfl, i0, -, -⟩ := qs i h1
  rw [h2] at i0
  obtain ⟨a', c', hrec, hown⟩ := a1.ex
  have e1 := Rec.cell hrec 1
  rw [q1] at e1
  simp at e1
  obtain ⟨rfl, rfl⟩ := e1
  have f0 : w.frozen? ⟨g, i * 3, none⟩ = false := by
    have := (own_there hown (o := i * 3) (m := 3) (by omega) 0 (by omega)).2
    simpa using this
  obtain ⟨p1, p2, p3, p4⟩ := own_put1 (j := 0) (y := (⟨v, x.id, x.x⟩ : Hp.It A)) (u := .int .u64 v) itV_length (by omega) hrec (by decide) hown hli (by omega) rfl
  rw [Nat.add_zero] at p1 p2 p3 p4
  obtain ⟨w2, ew2⟩ : ∃ w2, w2 = w.setCell ⟨g, i * 3, none⟩ (.int .u64 v) := ⟨_, rfl⟩
  obtain ⟨l2, el2⟩ : ∃ l2, l2 = l.set i ⟨v, x.id, x.x⟩ := ⟨_, rfl⟩
  have hml : l2.map (·.id) = l.map (·.id) := by rw [el2]; exact map_set_id hli rfl
  have hl2 : l2.length = l.length := by rw [el2]; simp
  have hp2 : l2.Perm (⟨v, x.id, x.x⟩ :: L') := by rw [el2]; exact set_perm hli (a3.trans hL)
  have hD := dn_put a2 i (⟨v, x.id, x.x⟩ : Hp.It A)
  rw [← ew2] at p1 p2 p3 p4
  rw [← el2] at p2 hD
  have hmg : mb ≠ g := fun e => own_not_map hown a1.mp (by simp [Value.ownBlock, e])
  have hA2 : HAt B w2 b mb most l2 := by
    refine ⟨a1.big, a1.mbig, ⟨_, c, by rw [hl2]; exact p1, p2⟩, ?_⟩
    have h5 := a1.mp.block (w' := w2) (by rw [ew2]; exact heap_setCell_other _ _ _ _ hmg)
    rw [hl2]
    exact h5.ext (fun z => (idx_map hml z).symm)
  have hbg : b ≠ g := by
    have h6 := own_not_rec hown hrec (by decide)
    intro e
    exact h6 (by simp [Value.ownBlock, e])
  have hK2 : HKept b mb w w2 := by
    refine ⟨by rw [ew2]; exact (Kept.refl _ _).setCell (p := ⟨g, i * 3, none⟩) (.inr (.inr (.inr ⟨_, _, q1⟩))) _, fun q hq => by rw [ew2] at hq; exact row_set hbg hq⟩
  have hG2 : Good l2 := ⟨by rw [hml]; exact hgl.nd, fun y hy => by
    have : y.id ∈ l.map (·.id) := by rw [← hml]; exact List.mem_map.2 ⟨y, hy, rfl⟩
    obtain ⟨y', hy', e⟩ := List.mem_map.1 this
    rw [← e]; exact hgl.i64 y' hy', by rw [hl2]; exact hgl.len⟩
  have hS2 : HSt B w2 b mb most l2 l2 w2 := ⟨hA2, List.Perm.refl _, Below.refl _ _, HKept.refl _ _ _⟩
  have hdn := down_any hG2 hS2 (by have := hA2.big; have := hA2.lt; omega) i hD (by have := hG2.len; omega)
  have HX := hid (show I64 x.id from h.good.i64 x hx)
  have hin2 : i < l2.length := by rw [hl2]; exact h1
  have hi2 : idx l2 x.id = some (i : Int) := by rw [idx_map hml]; exact hi
  obtain ⟨n, en⟩ : ∃ n, l.length = n := ⟨_, rfl⟩
  rw [en] at q1 h1
  have EN := hid en
  have HDN := hid hdn
  have HG2 := hid hG2
  have HA2 := hid hA2
  have HK2 := hid hK2
  have HP2 := hid hp2
  have HP3 := hid p3
  have HIN2 := hid (And.intro hin2 hi2)
  have hgs : g < w.heap.size := World.block_lt_of_cell? w _ i0
  have EW2 := hid ew2
  have HXM : Hid (x.id ∈ l2.map (·.id)) := hid (by rw [hml]; exact List.mem_map.2 ⟨x, a3.mem_iff.2 hx, rfl⟩)
  clear h a1 a2 a3 hgl hi hli h2 qs hrec hown p1 p2 p3 p4 el2 hml hl2 hp2 hD hmg hA2 hbg hK2 hG2 hS2 hdn en hin2 hi2 q0 hL hx ew2
  go_enter Try.func25, Try.ntmps25
  go_wp2_with fail
  rw [← EW2.out]
  refine HDN.out.mono ?_
  rintro _ w3 ⟨rfl, l3, hU3, hO3, hS3⟩
  have hG3 := HG2.out.perm hS3.perm
  have hin : x.id ∈ l3.map (·.id) := (hS3.perm.map _).mem_iff.2 HXM.out
  obtain ⟨y, hy, ey⟩ := List.mem_map.1 hin
  obtain ⟨p, hp, hlp⟩ := idx_some_of hG3.nd hy
  rw [ey] at hp
  have hpl := (List.getElem?_eq_some_iff.1 hlp).1
  have hU : Hp.Up l3 p := by
    rcases hO3 with e | e
    · rw [e, HIN2.out.2] at hp
      have : i = p := by injection hp with hp; omega
      rw [← this]; exact hU3
    · exact up_of_ord e p
  have hlook3 := hS3.at'.mp.look1 (m := 62) (x := x.id) (by kernel_rfl) (by kernel_rfl) (by go_simp) HX.out
  rw [hp] at hlook3
  simp only [Option.getD_some] at hlook3
  obtain ⟨a3, c3, -, -, r2, -⟩ := hS3.at'.cells
  have hS4 : HSt B w3 b mb most l3 l3 w3 := ⟨hS3.at', List.Perm.refl _, Below.refl _ _, HKept.refl _ _ _⟩
  have HUP := hid (up_any hG3 hS4 (by have := hS3.at'.big; have := hS3.at'.lt; omega) p hpl hU)
  have HS3 := hid hS3
  clear hU3 hO3 hS3 hG3 hin hy ey hp hlp hpl hU hS4
  go_wp2_with fail
  refine HUP.out.mono ?_
  rintro _ w4 ⟨rfl, l4, hO4, hS4⟩
  have HS4 := hid (And.intro hO4 hS4)
  clear hO4 hS4 HUP
  go_wp2_with fail
  go_ret
  have hpp := (HS4.out.2.perm.trans HS3.out.perm).trans HP2.out
  exact ⟨rfl, ⟨⟨l4, HS4.out.2.at', HS4.out.1, hpp⟩, HG2.out.perm HP2.out.symm⟩, (HP3.out.trans HS3.out.bel).trans HS4.out.2.bel, (HK2.out.trans HS3.out.kept).trans HS4.out.2.kept⟩
end

end Go.Proofs.Ytjhjkchcjpijaaa.HpI
