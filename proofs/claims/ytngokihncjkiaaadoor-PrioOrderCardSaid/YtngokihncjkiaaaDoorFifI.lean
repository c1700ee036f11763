/-
  Layer 05: the values in order, one by one: the iterator's contract (ints). No condition.
-/
import Derived.Test.YtngokihncjkiaaaDoorFifGS
import Derived.Test.YtngokihncjkiaaaDoorRangeN
import Derived.Test.YtngokihncjkiaaaDoorPastRd
import Derived.RangeFuncBox
import Derived.RangeFuncLeaves
import Derived.WalkKit
import Derived.OwnWalkIn
import Derived.TacticsInMore
import Derived.LoopNIn
import Derived.LoopIn
namespace Go.Proofs.YtngokihncjkiaaaDoor
open Go.RowKit
attribute [local go_sem] Oper.semAt_some
theorem prefix_length {α : Type} {a b : List α} {x : α} (h : a ++ [x] <+: b) : a.length < b.length := by
  have := h.length_le
  simp at this
  omega
theorem yield_two5 {e : Ending} {p q : Prop} (h : (e = .returned (.bool true) ∧ p) ∨ (e = .returned (.bool false) ∧ q)) : ∃ bb : Bool, e = .returned (.bool bb) ∧ ((bb = true ∧ p) ∨ (bb = false ∧ q)) := by
  rcases h with ⟨h, hp⟩ | ⟨h, hq⟩
  · exact ⟨true, h, .inl ⟨rfl, hp⟩⟩
  · exact ⟨false, h, .inr ⟨rfl, hq⟩⟩
def encP (x : Int × Int) : Array Value := #[.int .i64 x.1, .int .i64 x.2]
/-- Which one has its place there. -/
def plx (Q : List (ItQ Int)) (v : Value) : Nat := (List.range Q.length).findIdx (fun k => decide (plc Q k = intOf v))
theorem plx_plc {z : LkG Int} {q : Fq Int} {tk : Int} {f : Int → Option Int} {c : Nat} {Q : List (ItQ Int)} {ks : List Nat} (h : InvQ z q tk f c Q ks) {k : Nat} (hk : k ≤ Q.length) : plx Q (.int .i64 (plc Q k)) = k := by
  show (List.range Q.length).findIdx (fun j => decide (plc Q j = plc Q k)) = k
  by_cases hlt : k < Q.length
  · rw [List.findIdx_eq (by simpa using hlt)]
    refine ⟨by simp, fun j hj => ?_⟩
    simp only [List.getElem_range, decide_eq_false_iff_not]
    rw [plc_some (List.getElem?_eq_getElem (show j < Q.length by omega)), plc_some (List.getElem?_eq_getElem hlt)]
    intro e
    have := place_inj h.nd (List.getElem?_eq_getElem (show j < Q.length by omega)) (List.getElem?_eq_getElem hlt) (by omega)
    omega
  · obtain rfl : k = Q.length := by omega
    have := List.findIdx_eq_length (p := fun k => decide (plc Q k = plc Q Q.length)) (xs := List.range Q.length)
    refine (this.2 fun x hx => ?_).trans List.length_range
    have hx := List.mem_range.1 hx
    simp only [decide_eq_false_iff_not]
    rw [plc_some (List.getElem?_eq_getElem hx), plc_none (Nat.le_refl _)]
    omega
theorem take_mapQ {Q : List (ItQ Int)} {k : Nat} {x : ItQ Int} (h : Q[k]? = some x) : (Q.map (·.2)).take (k + 1) = (Q.map (·.2)).take k ++ [x.2] := by
  have hk := (List.getElem?_eq_some_iff.1 h).1
  rw [List.take_succ_eq_append_getElem (by simpa using hk), List.getElem_map, (List.getElem?_eq_some_iff.1 h).2]
theorem ks_kept {T : Nat → Prop} {w w' : World} (h : KS T w w') : Kept T w w' := ⟨h.os, h.tape, h.output, h.size, h.block⟩
/-- What the round needs of a queue in memory. -/
theorem QAt.reads {B : Nat} {w : World} {b : Nat} {F : Nat → Prop} {most : Int} {q : Fq Int} {tk : Int} {f : Int → Option Int} {c : Nat} {Q : List (ItQ Int)} {ks : List Nat} (h1 : QAt B w b F most q tk f c) (h2 : InvQ zL q tk f c Q ks) {k : Nat} {x : ItQ Int} (hx : Q[k]? = some x) :
    ∃ ba, w.cell? ⟨b, 0, none⟩ = some (.pointer (some ⟨ba, 0, none⟩)) ∧ b < w.heap.size ∧ Calls Tryd.prog 57 #[.pointer (some ⟨ba, 0, none⟩), .int .i64 (x.1 : Int)] w (Gives (.tuple #[.agg #[.int .i64 x.2.2, .int .i64 x.2.1, .int .i64 (pv Q k), .int .i64 (plc Q (k + 1))], .bool true]) w) := by
  obtain ⟨ba, mb, G, h1, _⟩ := h1
  have his := h2.isA hx
  have hg : getA zL q.S (x.1 : Int) = ((x.2.2, x.2.1, pv Q k, plc Q (k + 1)), true) := by
    have e1 : (getA zL q.S (x.1 : Int)).1 = (x.2.2, x.2.1, pv Q k, plc Q (k + 1)) := by rw [getA_slot _ _ his]; exact (h2.link k x hx).1
    have e2 : (getA zL q.S (x.1 : Int)).2 = true := by rw [getA_2]; exact his
    exact Prod.ext e1 e2
  refine ⟨ba, ?_, h1.rc.lt, ?_⟩
  · have := Rec.cell h1.rc 0
    simpa using this
  · have := LGet_any ba most q.S (x.1 : Int) w h1.ar.rd
    rw [hg] at this
    exact this
theorem QAt.first {B : Nat} {w : World} {b : Nat} {F : Nat → Prop} {most : Int} {q : Fq Int} {tk : Int} {f : Int → Option Int} {c : Nat} {Q : List (ItQ Int)} {ks : List Nat} (h1 : QAt B w b F most q tk f c) (h2 : InvQ zL q tk f c Q ks) : w.cell? ⟨b, 2, none⟩ = some (.int .i64 (plc Q 0)) ∧ b < w.heap.size := by
  obtain ⟨ba, mb, G, h1, _⟩ := h1
  have := Rec.cell h1.rc 2
  rw [← h2.fi]
  exact ⟨by simpa using this, h1.rc.lt⟩
set_option maxRecDepth 100000 in
set_option maxHeartbeats 1000000 in
theorem all_seq (m : Nat) (hm : 1 ≤ m) (w0 : World) (Bx b B : Nat) (F : Nat → Prop) (most : Int) (q : Fq Int) (tk : Int) (f : Int → Option Int) (c : Nat) (Q : List (ItQ Int)) (ks : List Nat) (h1 : QAt B w0 b F most q tk f c) (h2 : InvQ zL q tk f c Q ks) (T : Nat → Prop)
    (hBx : w0.cell? ⟨Bx, 0, none⟩ = some (.pointer (some ⟨b, 0, none⟩))) (hBT : ¬ T Bx) (hF : ∀ k, F k → ¬ T k) (hT : ∀ k, T k → k < w0.heap.size) :
    SeqE Fence.wide m Tryd.prog 56 #[.pointer (some ⟨Bx, 0, none⟩)] encP T (fun ys => ys = Q.map (·.2)) (fun pre => pre <+: Q.map (·.2)) Q.length w0 := by
  intro lp J Jx W hW hJ _ hY h0
  have cbx := hW.cell hBT hBx
  have hlx := World.block_lt_of_cell? w0 _ hBx
  simp only at hlx
  have KX := hid (fun wr (hk : KS (TT T w0.heap.size W.heap.size) W wr) => (hW.on hk (Nat.le_refl _)).cell hBT hBx)
  have KR := hid (fun wr (hk : KS (TT T w0.heap.size W.heap.size) W wr) => h1.kept (ks_kept (hW.on hk (Nat.le_refl _))) hF)
  obtain ⟨q1, hbW⟩ := (h1.kept (ks_kept hW) hF).first h2
  have HY := hid hY
  have HJ := hid hJ
  have H2 := hid h2
  have HT := hid (show ∀ s, W.heap.size ≤ s → ¬ TT T w0.heap.size W.heap.size s from fun s hs => by
    have := hW.size
    rintro (h | h)
    · have := hT s h; omega
    · omega)
  obtain ⟨n, en⟩ : ∃ n, Q.length = n := ⟨_, rfl⟩
  have EN := hid en
  clear hBx hBT hJ hY hW h1 h2 en hF hT hlx
  refine callsIn_of_wp Tryd.func56 rfl trivial ?_ rfl
  simp only [Tryd.ntmps56, List.size_toArray, List.length_cons, List.length_nil, Nat.reduceAdd, Nat.reduceSub, Array.replicate_succ, Array.replicate_zero, List.push_toArray, List.append_toArray, List.nil_append, List.cons_append]
  gi_wp2
  clear cbx q1 hbW
  gi_loopw [3, 4, 5] (fun i _ _ wr => ∃ (k : Nat), i = .int .i64 (plc Q k) ∧ k ≤ n ∧ J ((Q.map (·.2)).take k) wr ∧ KS (TT T w0.heap.size W.heap.size) W wr) (fun i _ _ _ => n - plx Q i)
  case atStart => exact ⟨0, rfl, by omega, h0, KS.refl _ _⟩
  case round =>
    clear h0
    obtain ⟨k, rfl, hk, hJ, hS⟩ := hrel
    by_cases hlt : k < n
    · obtain ⟨x, hx⟩ : ∃ x, Q[k]? = some x := ⟨Q[k]'(by rw [EN.out]; exact hlt), List.getElem?_eq_getElem _⟩
      have hpx := plc_some hx
      obtain ⟨ba, cba, hbl, hget⟩ := (KR.out wr hS).reads H2.out hx
      have cbx := KX.out wr hS
      have hbx := World.block_lt_of_cell? wr _ cbx
      simp only at hbx
      have HGET := hid hget
      have HX := hid hx
      have hMS := hid (show n - plx Q (.int .i64 (plc Q (k + 1))) < n - plx Q (.int .i64 (plc Q k)) by
        rw [plx_plc H2.out (by rw [EN.out]; omega), plx_plc H2.out (by rw [EN.out]; omega)]; omega)
      obtain ⟨p, ep⟩ : ∃ p, plc Q k = p := ⟨_, rfl⟩
      obtain ⟨p', ep'⟩ : ∃ p', plc Q (k + 1) = p' := ⟨_, rfl⟩
      obtain ⟨pp, epp⟩ : ∃ p', pv Q k = p' := ⟨_, rfl⟩
      rw [ep', epp] at HGET
      rw [ep', ep] at hMS
      rw [ep] at hpx
      subst hpx
      have hp1 : ¬ ((x.1 : Int) = -1) := by omega
      gi_wp2_with fail
      refine (callsIn_wide.2 HGET.out).mono ?_
      rintro _ _ ⟨rfl, y1, rfl⟩
      obtain ⟨w2, ew2⟩ : ∃ W, W = wr.past y1 := ⟨_, rfl⟩
      have hb2 : Below wr.heap.size wr w2 := by rw [ew2]; exact wr.below_past _
      rw [← ew2]
      clear ew2
      obtain ⟨W1, eW1⟩ : ∃ W1, W1 = w2.alloc (.cells #[.int .i64 x.2.2, .int .i64 x.2.1, .int .i64 pp, .int .i64 p'] 93) := ⟨_, rfl⟩
      have hb1 : Below wr.heap.size wr W1 := by rw [eW1]; exact hb2.alloc hb2.size _
      have hr1 : Rec W1 w2.heap.size 93 #[.int .i64 x.2.2, .int .i64 x.2.1, .int .i64 pp, .int .i64 p'] := by rw [eW1]; exact Rec.new w2 _ _
      have hsz := hS.size
      have hK1 := hS.trans (KS.of_below (S := TT T w0.heap.size W.heap.size) hb1)
      have hNX := take_mapQ HX.out
      have hpre : (Q.map (·.2)).take k ++ [x.2] <+: Q.map (·.2) := by rw [← hNX]; exact List.take_prefix _ _
      obtain ⟨fy, ty, asy, bdy, hyy, hRy⟩ := HY.out ((Q.map (·.2)).take k) x.2 W1 hK1.size (HJ.out _ _ _ hJ (hb1.mono hsz)) (by have := prefix_length hpre; simpa using this) hpre
      rw [← hNX] at hRy hpre
      simp only [encP] at hyy hRy
      have HRY := hid hRy
      have HPRE := hid hpre
      have HK1 := hid hK1
      have HR3 := hid (show W1.cell? ⟨w2.heap.size, 3, none⟩ = some (.int .i64 p') by have := Rec.cell hr1 3; simpa using this)
      have HTS := hid (HT.out w2.heap.size (by have := hb2.size; omega))
      have HL1 := hid hr1.lt
      have EW1 := hid eW1
      obtain ⟨s, es⟩ : ∃ s, w2.heap.size = s := ⟨_, rfl⟩
      rw [es] at HR3 HTS HL1
      clear hRy hpre hK1 hr1 hb1 hb2 hNX hJ eW1 hsz KR
      gi_wp2_with fail
      rw [← EW1.out, hyy]
      gi_wp2_with ((refine HRY.out.mono ?_; rintro e W3 hE; have hk3 := hE.elim (fun h => h.2.2) (fun h => h.2.2); have c3 := hk3.cell HTS.out HR3.out; have hl3 := Nat.lt_of_lt_of_le HL1.out hk3.size; have HK3 := hid hk3; clear hk3; obtain ⟨bb, eE, hE2⟩ := yield_two5 hE; clear hE; subst eE))
      · rename_i hb
        rcases hE2 with ⟨rfl, _⟩ | ⟨rfl, hJx, _⟩
        · cases hb
        · refine bodyPost_ret (results_none rfl _ _ _) rfl ?_
          exact ⟨⟨_, rfl⟩, .inr ⟨_, HPRE.out, hJx⟩⟩
      · rename_i hb
        rcases hE2 with ⟨rfl, hJ3, _⟩ | ⟨rfl, _⟩
        · go_roundw
          case rel => exact ⟨k + 1, by rw [ep'], by omega, hJ3, HK1.out.trans HK3.out⟩
          case measure =>
            rw [ep]
            exact hMS.out
        · cases hb
    · obtain rfl : k = n := by omega
      have HTA := hid (show (Q.map (·.2)).take k = Q.map (·.2) from List.take_of_length_le (by rw [List.length_map, EN.out]; omega))
      have hpx : plc Q k = -1 := plc_none (by rw [EN.out]; omega)
      rw [hpx]
      gi_wp2
      go_end0
      rw [HTA.out] at hJ
      exact ⟨⟨_, rfl⟩, .inl hJ⟩
/-- Of no queue. -/
theorem all_nil_seq (m : Nat) (hm : 1 ≤ m) (w0 : World) (Bx : Nat) (T : Nat → Prop) (hBx : w0.cell? ⟨Bx, 0, none⟩ = some (.pointer none)) (hBT : ¬ T Bx) :
    SeqE Fence.wide m Tryd.prog 56 #[.pointer (some ⟨Bx, 0, none⟩)] encP T (fun ys => ys = []) (fun _ => False) 0 w0 := by
  intro lp J Jx W hW hJ _ hY h0
  have cbx := hW.cell hBT hBx
  clear hBx hBT hJ hY hW
  refine callsIn_of_wp Tryd.func56 rfl trivial ?_ rfl
  simp only [Tryd.ntmps56, List.size_toArray, List.length_cons, List.length_nil, Nat.reduceAdd, Nat.reduceSub, Array.replicate_succ, Array.replicate_zero, List.push_toArray, List.append_toArray, List.nil_append, List.cons_append]
  gi_wp2
  refine bodyPost_ret (results_none rfl _ _ _) rfl ?_
  exact ⟨⟨_, rfl⟩, .inl ⟨_, rfl, h0⟩⟩
theorem All_any (bp : Option Addr) (w : World) :
    Calls Tryd.prog 38 #[.pointer bp] w (fun e w' => e = .returned (.func (.func 56) #[] #[.pointer (some ⟨w.heap.size, 0, none⟩)]) ∧
      Below w.heap.size w w' ∧ w'.heap.size = w.heap.size + 1 ∧ w'.cell? ⟨w.heap.size, 0, none⟩ = some (.pointer bp)) := by
  go_enter Tryd.func38, Tryd.ntmps38
  go_wp2
  go_ret
  exact ⟨rfl, (Below.refl _ w).alloc (Nat.le_refl _) _, by simp, by simp [go_sem]⟩
end Go.Proofs.YtngokihncjkiaaaDoor
