/-
  Layer 05: what is told by a ticket; a queue that is none (ints). No condition.
-/
import Derived.Test.YtifdogmlaengoaaFifI
import Derived.LaidEqlPtr
namespace Go.Proofs.Ytifdogmlaengoaa
open Go.RowKit
attribute [local go_sem] Oper.semAt_some
theorem FGet_any {B : Nat} {w : World} {b : Nat} {F : Nat → Prop} {most : Int} {q : Fq Int} {tk : Int} {f : Int → Option Int} {c : Nat} {Q : List (ItQ Int)} {ks : List Nat} (h1 : QAt B w b F most q tk f c) (h2 : InvQ zL q tk f c Q ks) {k : Nat} {x : ItQ Int} (hx : Q[k]? = some x) (ht : I64 x.2.1) :
    Calls Try.prog 17 #[.pointer (some ⟨b, 0, none⟩), .int .i64 x.2.1] w (Gives (.tuple #[.int .i64 x.2.2, .bool true]) w) := by
  have HP := hid (place_any h1 x.2.1 ht)
  rw [show plF f x.2.1 = (x.1 : Int) by unfold plF; rw [(h2.f _ _).2 ⟨x, List.mem_of_getElem? hx, rfl, rfl⟩]; rfl] at HP
  obtain ⟨ba, cba, hbl, hget⟩ := h1.reads h2 hx
  have HGET := hid hget
  have hp1 : ((x.1 : Int) == -1) = false := by simp
  have hp2 : ¬ ((x.1 : Int) = -1) := by omega
  clear h1 h2 hget
  go_enter Try.func17, Try.ntmps17
  go_wp2_with (first | (go_at_call 32; refine HP.out.mono ?_; rintro _ w1 ⟨rfl, h1⟩; rw [h1]; clear h1 w1) | (go_at_call 33; refine HGET.out.mono ?_; rintro _ _ ⟨rfl, y1, rfl⟩))
  go_ret2
  exact Gives.mk rfl (by (repeat (first | exact Below.refl _ _ | refine RowKit.Below.past ?_ _ | refine RowKit.Below.alloc' ?_ _ | refine RowKit.Below.drew' ?_ | refine RowKit.Below.drewN' ?_ _ | refine RowKit.Below.setCell' ?_ (by simp [go_sem]) _)))
theorem FGetN_any {B : Nat} {w : World} {b : Nat} {F : Nat → Prop} {most : Int} {q : Fq Int} {tk : Int} {f : Int → Option Int} {c : Nat} (h1 : QAt B w b F most q tk f c) (t : Int) (ht : I64 t) (hn : f t = none) :
    Calls Try.prog 17 #[.pointer (some ⟨b, 0, none⟩), .int .i64 t] w (Gives (.tuple #[.int .i64 0, .bool false]) w) := by
  have HP := hid (place_any h1 t ht)
  rw [show plF f t = -1 by unfold plF; rw [hn]; rfl] at HP
  clear h1
  go_enter Try.func17, Try.ntmps17
  go_wp2_with (go_at_call 32; refine HP.out.mono ?_; rintro _ w1 ⟨rfl, h1⟩; rw [h1]; clear h1 w1)
  go_ret2
  exact Gives.refl rfl
/-- What a ticket tells, of a queue as a list. -/
theorem QGet_any {B : Nat} {w : World} {b : Nat} {F : Nat → Prop} {most tk : Int} {L : List (Int × Int)} (h : QA B w b F most tk L) (ht1 : tk ≤ 1000000) {i : Nat} {x : Int × Int} (hx : L[i]? = some x) :
    Calls Try.prog 17 #[.pointer (some ⟨b, 0, none⟩), .int .i64 x.1] w (Gives (.tuple #[.int .i64 x.2, .bool true]) w) := by
  obtain ⟨q, f, c, Q, ks, h1, h2, h3, h4, h5, h6, h7⟩ := h
  subst h3
  rw [List.getElem?_map] at hx
  obtain ⟨y, hy, rfl⟩ := Option.map_eq_some_iff.1 hx
  have htk := h2.tk y (List.mem_of_getElem? hy)
  exact FGet_any h1 h2 hy (by unfold I64; omega)
theorem QGetN_any {B : Nat} {w : World} {b : Nat} {F : Nat → Prop} {most tk : Int} {L : List (Int × Int)} (h : QA B w b F most tk L) (t : Int) (hti : I64 t) (hn : ∀ x ∈ L, x.1 ≠ t) :
    Calls Try.prog 17 #[.pointer (some ⟨b, 0, none⟩), .int .i64 t] w (Gives (.tuple #[.int .i64 0, .bool false]) w) := by
  obtain ⟨q, f, c, Q, ks, h1, h2, h3, _⟩ := h
  refine FGetN_any h1 t hti ?_
  cases e : f t with
  | none => rfl
  | some p =>
    obtain ⟨y, hy, h4, _⟩ := (h2.f _ _).1 e
    exact (hn y.2 (by rw [← h3]; exact List.mem_map_of_mem hy) h4).elim
/-! Of no queue. -/
theorem NPush_any (v : Int) (w : World) : Calls Try.prog 8 #[.pointer none, .int .i64 v] w (Gives (.tuple #[.int .i64 0, .int .i64 1]) w) := by
  go_enter Try.func8, Try.ntmps8
  go_wp2
  go_ret2
  exact Gives.refl rfl
theorem NPop_any (w : World) : Calls Try.prog 11 #[.pointer none] w (Gives (.tuple #[.int .i64 0, .bool false]) w) := by
  go_enter Try.func11, Try.ntmps11
  go_wp2
  go_ret2
  exact Gives.refl rfl
theorem Nplace_any (t : Int) (w : World) : Calls Try.prog 32 #[.pointer none, .int .i64 t] w (Gives (.int .i64 (-1)) w) := by
  go_enter Try.func32, Try.ntmps32
  go_wp2
  go_ret
  exact Gives.refl rfl
theorem NGet_any (t : Int) (w : World) : Calls Try.prog 17 #[.pointer none, .int .i64 t] w (Gives (.tuple #[.int .i64 0, .bool false]) w) := by
  have HP := hid (Nplace_any t w)
  go_enter Try.func17, Try.ntmps17
  go_wp2_with (go_at_call 32; refine HP.out.mono ?_; rintro _ _ ⟨rfl, y1, rfl⟩)
  go_ret2
  exact Gives.mk rfl (by (repeat (first | exact Below.refl _ _ | refine RowKit.Below.past ?_ _ | refine RowKit.Below.alloc' ?_ _ | refine RowKit.Below.drew' ?_ | refine RowKit.Below.drewN' ?_ _ | refine RowKit.Below.setCell' ?_ (by simp [go_sem]) _)))
theorem NRemove_any (t : Int) (w : World) : Calls Try.prog 15 #[.pointer none, .int .i64 t] w (Gives (.tuple #[.int .i64 0, .bool false]) w) := by
  have HP := hid (Nplace_any t w)
  go_enter Try.func15, Try.ntmps15
  go_wp2_with (go_at_call 32; refine HP.out.mono ?_; rintro _ _ ⟨rfl, y1, rfl⟩)
  go_ret2
  exact Gives.mk rfl (by (repeat (first | exact Below.refl _ _ | refine RowKit.Below.past ?_ _ | refine RowKit.Below.alloc' ?_ _ | refine RowKit.Below.drew' ?_ | refine RowKit.Below.drewN' ?_ _ | refine RowKit.Below.setCell' ?_ (by simp [go_sem]) _)))
theorem NLen_any (w : World) : Calls Try.prog 10 #[.pointer none] w (Gives (.int .i64 0) w) := by
  go_enter Try.func10, Try.ntmps10
  go_wp2
  go_ret
  exact Gives.refl rfl
theorem NPour_any (p : Option Addr) (n : Int) (w : World) : Calls Try.prog 9 #[.pointer none, .pointer p, .int .i64 n] w (Gives (.int .i64 0) w) := by
  go_enter Try.func9, Try.ntmps9
  go_wp2
  go_ret
  exact Gives.refl rfl
theorem PourN_any (b : Nat) (n : Int) (w : World) : Calls Try.prog 9 #[.pointer (some ⟨b, 0, none⟩), .pointer none, .int .i64 n] w (Gives (.int .i64 0) w) := by
  go_enter Try.func9, Try.ntmps9
  go_wp2
  go_ret
  exact Gives.refl rfl
theorem info_qJ : (Try.prog.info? 70).map (fun i => i.size) = some 5 := by kernel_rfl
theorem und_qJ : Try.prog.underlying 24 = some (.pointer 70) := by kernel_rfl
theorem PourSame_any (b : Nat) (n : Int) (w : World) : Calls Try.prog 9 #[.pointer (some ⟨b, 0, none⟩), .pointer (some ⟨b, 0, none⟩), .int .i64 n] w (Gives (.int .i64 0) w) := by
  obtain ⟨j, hj, hs⟩ := Option.map_eq_some_iff.1 info_qJ
  have he := run_eql_ptr_same (P := Try.prog) (w := w) ⟨b, 0, none⟩ und_qJ hj
  clear hj hs
  go_enter Try.func9, Try.ntmps9
  go_wp2
  go_ret
  exact Gives.refl rfl
end Go.Proofs.Ytifdogmlaengoaa
