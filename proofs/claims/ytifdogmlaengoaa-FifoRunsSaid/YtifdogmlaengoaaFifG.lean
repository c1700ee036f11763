/-
  Layer 05: a queue as a list of tickets and values (ints). No condition.
-/
import Derived.Test.YtifdogmlaengoaaFifF
import Derived.Test.YtifdogmlaengoaaFifR
namespace Go.Proofs.Ytifdogmlaengoaa
open Go.RowKit
/-! A queue as a list of tickets and values. -/
def QA (B : Nat) (w : World) (b : Nat) (F : Nat → Prop) (most : Int) (tk : Int) (L : List (Int × Int)) : Prop :=
  ∃ q f c Q ks, QAt B w b F most q tk f c ∧ InvQ zL q tk f c Q ks ∧ Q.map (·.2) = L ∧ q.S.l.length ≤ 5000 ∧ most ≤ 4096 ∧ 0 ≤ tk ∧ (L.length : Int) ≤ max most 0
/-- Behind an act. -/
def QR (B b : Nat) (F : Nat → Prop) (most tk : Int) (L : List (Int × Int)) (w w' : World) : Prop :=
  ∃ F', QA B w' b F' most tk L ∧ (∀ k, F' k → F k ∨ w.heap.size ≤ k) ∧ Kept F w w'
section
variable {B : Nat} {w w' : World} {b : Nat} {F : Nat → Prop} {most : Int} {q : Fq Int} {tk : Int} {f : Int → Option Int} {c : Nat} {L : List (Int × Int)}
theorem QAt.far (h : QAt B w b F most q tk f c) (hb : Below w.heap.size w w') : QAt B w' b F most q tk f c := by
  obtain ⟨ba, mb, G, h, hF⟩ := h
  exact ⟨ba, mb, G, h.far hb, hF⟩
theorem QAt.kept {X : Nat → Prop} (h : QAt B w b F most q tk f c) (hk : Kept X w w') (hX : ∀ k, F k → ¬ X k) : QAt B w' b F most q tk f c := by
  obtain ⟨ba, mb, G, h, hF⟩ := h
  exact ⟨ba, mb, G, h.kept hk (fun k hk => hX k (by rw [hF]; exact hk)), hF⟩
theorem QAt.foot (h : QAt B w b F most q tk f c) (k : Nat) (hk : F k) : B ≤ k ∧ k < w.heap.size := by
  obtain ⟨ba, mb, G, h, hF⟩ := h
  exact h.foot k (by rw [← hF]; exact hk)
theorem QA.far (h : QA B w b F most tk L) (hb : Below w.heap.size w w') : QA B w' b F most tk L := by
  obtain ⟨q, f, c, Q, ks, h1, h2⟩ := h
  exact ⟨q, f, c, Q, ks, h1.far hb, h2⟩
theorem QA.kept {X : Nat → Prop} (h : QA B w b F most tk L) (hk : Kept X w w') (hX : ∀ k, F k → ¬ X k) : QA B w' b F most tk L := by
  obtain ⟨q, f, c, Q, ks, h1, h2⟩ := h
  exact ⟨q, f, c, Q, ks, h1.kept hk hX, h2⟩
theorem QA.foot (h : QA B w b F most tk L) (k : Nat) (hk : F k) : B ≤ k ∧ k < w.heap.size := by
  obtain ⟨q, f, c, Q, ks, h1, h2⟩ := h
  exact h1.foot k hk
end
theorem QNew_any (B : Nat) (most : Int) (w : World) (hB : B ≤ w.heap.size) :
    Calls Try.prog 7 #[.int .i64 most] w (fun e w' => ∃ b F, e = .returned (.pointer (some ⟨b, 0, none⟩)) ∧ QA B w' b F (mostA most) 0 [] ∧ (∀ k, F k → w.heap.size ≤ k) ∧ Below w.heap.size w w') :=
  (FNew_any B most w hB).mono fun _ _ ⟨b, F, h1, h2, h3, h4⟩ => ⟨b, F, h1, ⟨_, _, _, [], [], h2, InvQ.nil _, rfl, by simp, by unfold mostA; omega, by omega, by simp; omega⟩, h3, h4⟩
theorem QLen_any {B : Nat} {w : World} {b : Nat} {F : Nat → Prop} {most tk : Int} {L : List (Int × Int)} (h : QA B w b F most tk L) :
    Calls Try.prog 10 #[.pointer (some ⟨b, 0, none⟩)] w (Gives (.int .i64 (L.length : Int)) w) := by
  obtain ⟨q, f, c, Q, ks, h1, h2, h3, _⟩ := h
  have := FLen_any h1
  rw [h2.n] at this
  rw [← h3, List.length_map]
  exact this
theorem QPush_any {B : Nat} {w : World} {b : Nat} {F : Nat → Prop} {most tk : Int} {L : List (Int × Int)} (h : QA B w b F most tk L) (hB : B ≤ w.heap.size) (ht1 : tk ≤ 1000000) (hr : (L.length : Int) < most) (v : Int) :
    Calls Try.prog 8 #[.pointer (some ⟨b, 0, none⟩), .int .i64 v] w (fun e w' => e = .returned (.tuple #[.int .i64 (tk + 1), .int .i64 0]) ∧ QR B b F most (tk + 1) (L ++ [(tk + 1, v)]) w w') := by
  obtain ⟨q, f, c, Q, ks, h1, h2, h3, h4, h5, h6, h7⟩ := h
  have hQL : Q.length = L.length := by rw [← h3, List.length_map]
  have hn : q.S.n < most := by rw [h2.n]; omega
  obtain ⟨S', p, ks', hput, hp, hfn, hll, hinv⟩ := push_inv h2 h6 hn v
  refine (Push_any h1 hB h2.ok (by omega) (by have := h2.c; omega) h6 ht1 (by omega) v S' p 0 hput (by omega) rfl hfn).mono ?_
  rintro _ w2 ⟨e, F', g1, g2, g3⟩
  refine ⟨e, F', ⟨_, _, _, _, _, g1, hinv, by rw [List.map_append, h3]; rfl, ?_, h5, by omega, by simp; omega⟩, g2, g3⟩
  have hl := hinv.len
  rcases hll with g | g
  · have j := (join_len (z := zL) (⟨S', q.fi, q.la⟩ : Fq Int) q.la (p : Int)); show (joinF _ _ _ _).S.l.length ≤ 5000; rw [j]; show S'.l.length ≤ 5000; omega
  · have j := (join_len (z := zL) (⟨S', q.fi, q.la⟩ : Fq Int) q.la (p : Int)); show (joinF _ _ _ _).S.l.length ≤ 5000; rw [j]; show S'.l.length ≤ 5000; omega
theorem QPushF_any {B : Nat} {w : World} {b : Nat} {F : Nat → Prop} {most tk : Int} {L : List (Int × Int)} (h : QA B w b F most tk L) (hB : B ≤ w.heap.size) (ht1 : tk ≤ 1000000) (hr : most ≤ (L.length : Int)) (v : Int) :
    Calls Try.prog 8 #[.pointer (some ⟨b, 0, none⟩), .int .i64 v] w (fun e w' => e = .returned (.tuple #[.int .i64 0, .int .i64 3]) ∧ QR B b F most tk L w w') := by
  obtain ⟨q, f, c, Q, ks, h1, h2, h3, h4, h5, h6, h7⟩ := h
  have hQL : Q.length = L.length := by rw [← h3, List.length_map]
  refine (PushF_any h1 hB h2.ok (by omega) h6 ht1 v (by rw [h2.n]; omega)).mono ?_
  rintro _ w2 ⟨e, F', g1, g2, g3⟩
  exact ⟨e, F', ⟨q, f, c, Q, ks, g1, h2, h3, h4, h5, h6, h7⟩, g2, g3⟩
/-- An item is taken off its place. -/
theorem qtake_any {B : Nat} {w : World} {b : Nat} {F : Nat → Prop} {most tk : Int} {q : Fq Int} {f : Int → Option Int} {c : Nat} {Q : List (ItQ Int)} {ks : List Nat} (h1 : QAt B w b F most q tk f c) (h2 : InvQ zL q tk f c Q ks) (h4 : q.S.l.length ≤ 5000) (h5 : most ≤ 4096) (h6 : 0 ≤ tk) (h7 : (Q.length : Int) ≤ max most 0) (ht1 : tk ≤ 1000000) (hB : B ≤ w.heap.size) {i : Nat} {x : ItQ Int} (hx : Q[i]? = some x) :
    Calls Try.prog 31 #[.pointer (some ⟨b, 0, none⟩), .int .i64 (x.1 : Int)] w (fun e w' => e = .returned (.tuple #[.int .i64 x.2.2, .bool true]) ∧ QR B b F most tk ((Q.map (·.2)).eraseIdx i) w w') := by
  have his := h2.isA hx
  have hxm := List.mem_of_getElem? hx
  have htk := h2.tk x hxm
  have hil := (List.getElem?_eq_some_iff.1 hx).1
  have hg : (getA zL q.S (x.1 : Int)).1 = (x.2.2, x.2.1, pv Q i, plc Q (i + 1)) := by rw [getA_slot _ _ his]; exact (h2.link i x hx).1
  have hinv := take_inv h2 hx
  refine (take_any h1 hB h2.ok (by omega) (x.1 : Int) his x.2.2 x.2.1 _ _ hg (by unfold I64; omega) (by rw [(h2.f _ _).2 ⟨x, hxm, rfl, rfl⟩]; rfl)).mono ?_
  rintro _ w2 ⟨e, F', g1, g2, g3⟩
  refine ⟨e, F', ⟨_, _, _, _, _, g1, hinv, map_eraseIdx _ _ _, ?_, h5, h6, ?_⟩, g2, g3⟩
  · have := hinv.len
    have e2 := h2.len
    have e3 : (Q.eraseIdx i).length = Q.length - 1 := List.length_eraseIdx_of_lt hil
    rw [this, e3]; simp; omega
  · rw [List.length_eraseIdx_of_lt (by simpa using hil), List.length_map]; omega
theorem QPop_any {B : Nat} {w : World} {b : Nat} {F : Nat → Prop} {most tk : Int} {x : Int × Int} {L : List (Int × Int)} (h : QA B w b F most tk (x :: L)) (hB : B ≤ w.heap.size) (ht1 : tk ≤ 1000000) :
    Calls Try.prog 11 #[.pointer (some ⟨b, 0, none⟩)] w (fun e w' => e = .returned (.tuple #[.int .i64 x.2, .bool true]) ∧ QR B b F most tk L w w') := by
  obtain ⟨q, f, c, Q, ks, h1, h2, h3, h4, h5, h6, h7⟩ := h
  cases Q with
  | nil => cases h3
  | cons y Q =>
    simp only [List.map_cons, List.cons.injEq] at h3
    obtain ⟨h3, h8⟩ := h3
    refine FPop_any h1 _ ?_
    have hfi : q.fi = (y.1 : Int) := h2.fi
    rw [hfi]
    refine (qtake_any h1 h2 h4 h5 h6 (by rw [← h8] at h7; simpa using h7) ht1 hB (i := 0) (x := y) rfl).mono ?_
    rintro _ w2 ⟨rfl, g⟩
    refine ⟨_, _, rfl, by rw [← h3], ?_⟩
    simp only [List.map_cons, List.eraseIdx_cons_zero] at g
    rw [← h8]; exact g
theorem QPopN_any {B : Nat} {w : World} {b : Nat} {F : Nat → Prop} {most tk : Int} (h : QA B w b F most tk ([] : List (Int × Int))) (hB : B ≤ w.heap.size) :
    Calls Try.prog 11 #[.pointer (some ⟨b, 0, none⟩)] w (fun e w' => e = .returned (.tuple #[.int .i64 0, .bool false]) ∧ QR B b F most tk ([] : List (Int × Int)) w w') := by
  obtain ⟨q, f, c, Q, ks, h1, h2, h3, h4, h5, h6, h7⟩ := h
  cases Q with
  | cons y Q => cases h3
  | nil =>
    refine FPop_any h1 _ ?_
    have hfi : q.fi = -1 := h2.fi
    rw [hfi]
    refine (takeN_any h1 hB h2.ok (by omega) (-1) (isA_neg (by omega))).mono ?_
    rintro _ w2 ⟨rfl, F', g1, g2, g3⟩
    exact ⟨0, _, rfl, rfl, F', ⟨q, f, c, [], ks, g1, h2, rfl, h4, h5, h6, h7⟩, g2, g3⟩
theorem QRemove_any {B : Nat} {w : World} {b : Nat} {F : Nat → Prop} {most tk : Int} {L : List (Int × Int)} (h : QA B w b F most tk L) (hB : B ≤ w.heap.size) (ht1 : tk ≤ 1000000) {i : Nat} {x : Int × Int} (hx : L[i]? = some x) :
    Calls Try.prog 15 #[.pointer (some ⟨b, 0, none⟩), .int .i64 x.1] w (fun e w' => e = .returned (.tuple #[.int .i64 x.2, .bool true]) ∧ QR B b F most tk (L.eraseIdx i) w w') := by
  obtain ⟨q, f, c, Q, ks, h1, h2, h3, h4, h5, h6, h7⟩ := h
  subst h3
  rw [List.getElem?_map] at hx
  obtain ⟨y, hy, rfl⟩ := Option.map_eq_some_iff.1 hx
  have hym := List.mem_of_getElem? hy
  have htk := h2.tk y hym
  refine FRemove_any h1 y.2.1 (by unfold I64; omega) (y.1 : Int) ((h2.f _ _).2 ⟨y, hym, rfl, rfl⟩) (by omega) _ ?_
  refine (qtake_any h1 h2 h4 h5 h6 (by simpa using h7) ht1 hB hy).mono ?_
  rintro _ w2 ⟨rfl, g⟩
  exact ⟨_, _, rfl, rfl, g⟩
theorem QRemoveN_any {B : Nat} {w : World} {b : Nat} {F : Nat → Prop} {most tk : Int} {L : List (Int × Int)} (h : QA B w b F most tk L) (t : Int) (hti : I64 t) (hn : ∀ x ∈ L, x.1 ≠ t) :
    Calls Try.prog 15 #[.pointer (some ⟨b, 0, none⟩), .int .i64 t] w (fun e w' => e = .returned (.tuple #[.int .i64 0, .bool false]) ∧ w' = w) := by
  obtain ⟨q, f, c, Q, ks, h1, h2, h3, _⟩ := h
  refine FRemoveN_any h1 t hti ?_
  cases e : f t with
  | none => rfl
  | some p =>
    obtain ⟨y, hy, h4, _⟩ := (h2.f _ _).1 e
    exact (hn y.2 (by rw [← h3]; exact List.mem_map_of_mem hy) h4).elim

end Go.Proofs.Ytifdogmlaengoaa
