/-
  Layer 25: slices.Sorted(maps.Keys(m)), by the library's contracts. No condition.
-/
import Derived.Test.YtdeejiiegmddaaaMapP
import Derived.Shelf.SlIterI.Sorted
import Derived.Test.YtdeejiiegmddaaaShelf
import Derived.Test.YtdeejiiegmddaaaStD
namespace Go.Proofs.Ytdeejiiegmddaaa
open Go Go.RowKit Go.Maps Go.Shelf
def kRen : Go.Shelf.Ren := ⟨fun | 6 => 15 | 7 => 16 | 8 => 23 | 9 => 24 | 10 => 25 | 11 => 33 | n => n, fun | 3 => 46 | 4 => 4 | 23 => 45 | 24 => 40 | 26 => 3 | 27 => 52 | 28 => 53 | 33 => 67 | n => n, fun | n => n⟩
theorem kLays7 : SlLaysZI.n7 Try.prog kRen := {
  mixed := by kernel_rfl
  f7 := ⟨"maps.Keys[map[int]*forelock/stat.row,int,*forelock/stat.row]", by kernel_rfl, Try.func16.trans (congrArg some (by kernel_rfl))⟩
  f10 := ⟨"maps.Keys[map[int]*forelock/stat.row,int,*forelock/stat.row]$1", by kernel_rfl, Try.func25.trans (congrArg some (by kernel_rfl))⟩
  t0 := Try.underlying0
  a0 := Try.isAgg0
  z0 := Try.sizeOf0
  v0 := Try.zeroValue0
  t4 := Try.underlying4
  a4 := Try.isAgg4
  z4 := Try.sizeOf4
  v4 := Try.zeroValue4
  t23 := Try.underlying45
  a23 := Try.isAgg45
  z23 := Try.sizeOf45
  v23 := Try.zeroValue45
  t26 := Try.underlying3
  a26 := Try.isAgg3
  z26 := Try.sizeOf3
  v26 := Try.zeroValue3
  t27 := Try.underlying52
  a27 := Try.isAgg52
  z27 := Try.sizeOf52
  v27 := Try.zeroValue52
  t28 := Try.underlying53
  a28 := Try.isAgg53
  z28 := Try.sizeOf53
  v28 := Try.zeroValue53
  t33 := Try.underlying67
  a33 := Try.isAgg67
  z33 := Try.sizeOf67
  v33 := Try.zeroValue67 }
theorem kLays6 : SlLaysZI.n6 Try.prog kRen := {
  mixed := by kernel_rfl
  f6 := ⟨"slices.Sorted[int]", by kernel_rfl, Try.func15.trans (congrArg some (by kernel_rfl))⟩
  f8 := ⟨"slices.Collect[int]", by kernel_rfl, Try.func23.trans (congrArg some (by kernel_rfl))⟩
  f11 := ⟨"slices.AppendSeq[[]int,int]", by kernel_rfl, Try.func33.trans (congrArg some (by kernel_rfl))⟩
  t0 := Try.underlying0
  a0 := Try.isAgg0
  z0 := Try.sizeOf0
  v0 := Try.zeroValue0
  t24 := Try.underlying40
  a24 := Try.isAgg40
  z24 := Try.sizeOf40
  v24 := Try.zeroValue40
  t26 := Try.underlying3
  a26 := Try.isAgg3
  z26 := Try.sizeOf3
  v26 := Try.zeroValue3
  t28 := Try.underlying53
  a28 := Try.isAgg53
  z28 := Try.sizeOf53
  v28 := Try.zeroValue53
  i26 := by kernel_rfl }
theorem kSorts (m : Nat) : AnyZI.SortsIn Try.prog kRen Fence.wide m :=
  ⟨fun blk off cap ss W hH hblk hsz => callsIn_wide.2 (Try.slices_Sort_int blk off cap ss W hH hblk hsz), fun p cap W => callsIn_wide.2 (Try.slices_Sort_int_none p cap W)⟩
theorem keys_call (b : Nat) (w : World) : Calls Try.prog 16 #[.map (some b)] w fun e w' => e = .returned (.func (.func 25) #[] #[.pointer (some ⟨w.heap.size, 0, none⟩)]) ∧ w' = w.alloc (.cells #[.map (some b)] 45) :=
  (callsIn_wide (n := 5)).1 (AnyZI.keys_in kLays7 Fence.wide 5 trivial rfl (some b) w)
set_option maxHeartbeats 1000000 in
theorem sorted_call (b c : Nat) (f : Int → Option Nat) (ids : List Int) (hs : ids.Pairwise (· < ·)) (hm : ∀ x, x ∈ ids ↔ (f x).isSome = true) (hl : ids.length ≤ 4294967296) (w : World) (h : MapP Try.prog 3 w b f c) :
    Calls Try.prog 15 #[.func (.func 25) #[] #[.pointer (some ⟨w.heap.size, 0, none⟩)]] (w.alloc (.cells #[.map (some b)] 45)) (GivesOwn 3 1 ids.length (i64s ids) (w.alloc (.cells #[.map (some b)] 45))) := by
  have hnd : ids.Nodup := hs.imp (fun h => Int.ne_of_lt h)
  obtain ⟨D, hown, hsz, hp, hc⟩ := h.keys Try.underlying3 hnd hm
  have hbl := hown.lt
  have hown' : (w.alloc (.cells #[.map (some b)] 45)).ownsMap Try.prog 3 ptrElem b c D := hown.alloc _
  have hseq : SeqGives Fence.wide 2 Try.prog 25 #[.pointer (some ⟨w.heap.size, 0, none⟩)] encZ (fun ss => ss.Perm (intKeys D)) (Maps.size D) (w.alloc (.cells #[.map (some b)] 45)) :=
    AnyZI.keys_gives (ρ := kRen) { kLays7 with } Fence.wide _ trivial rfl (by omega) w.heap.size b c D _ (by simp) (by simp) hown'
  have hS := AnyZI.sorted_in kLays6 Fence.wide 5 trivial trivial trivial trivial rfl (by omega) (kSorts _) (enters_of Try.func24 (by kernel_rfl) rfl) 25 #[.pointer (some ⟨w.heap.size, 0, none⟩)] trivial (enters_of Try.func25 (by kernel_rfl) rfl) _ _ (by rw [hsz, hc]; unfold maxLen; omega) (by rw [hsz, hc]; omega) _ hseq
  refine ((callsIn_wide (n := 5)).1 hS).mono ?_
  rintro _ w' ⟨v, ss, rfl, hss, hrow, _, hb⟩
  have hlen : ss.length = ids.length := (hss.trans hp.symm).length_eq
  have hms : ss.mergeSort (fun x y => decide (x ≤ y)) = ids := by
    have h1 := mergeSort_of_perm_i (hss.trans hp.symm)
    have h2 : ids.mergeSort leI = ids := List.mergeSort_of_pairwise (hs.imp (fun h => by simp only [leI, decide_eq_true_eq]; exact Int.le_of_lt h))
    exact h1.trans h2
  rw [hms, hlen] at hrow
  obtain ⟨A, cap, rfl⟩ := own_shape hrow
  exact ⟨A, cap, rfl, hb, hrow⟩
end Go.Proofs.Ytdeejiiegmddaaa
