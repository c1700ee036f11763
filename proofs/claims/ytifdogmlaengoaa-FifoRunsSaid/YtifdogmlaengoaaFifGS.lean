/-
  Layer 05: a queue as a list of tickets and values (strings). No condition.
-/
import Derived.Test.YtifdogmlaengoaaFifFS
import Derived.Test.YtifdogmlaengoaaFifR
namespace Go.Proofs.Ytifdogmlaengoaa
open Go.RowKit
/-! A queue as a list of tickets and values. -/
def QAS (B : Nat) (w : World) (b : Nat) (F : Nat → Prop) (most : Int) (tk : Int) (L : List (Int × ByteArray)) : Prop :=
  ∃ q f c Q ks, QAtS B w b F most q tk f c ∧ InvQ zLS q tk f c Q ks ∧ Q.map (·.2) = L ∧ q.S.l.length ≤ 5000 ∧ most ≤ 4096 ∧ 0 ≤ tk ∧ (L.length : Int) ≤ max most 0
/-- Behind an act. -/
def QRS (B b : Nat) (F : Nat → Prop) (most tk : Int) (L : List (Int × ByteArray)) (w w' : World) : Prop :=
  ∃ F', QAS B w' b F' most tk L ∧ (∀ k, F' k → F k ∨ w.heap.size ≤ k) ∧ Kept F w w'
section
variable {B : Nat} {w w' : World} {b : Nat} {F : Nat → Prop} {most : Int} {q : Fq ByteArray} {tk : Int} {f : Int → Option Int} {c : Nat} {L : List (Int × ByteArray)}
theorem QAtS.far (h : QAtS B w b F most q tk f c) (hb : Below w.heap.size w w') : QAtS B w' b F most q tk f c := by
  obtain ⟨ba, mb, G, h, hF⟩ := h
  exact ⟨ba, mb, G, h.far hb, hF⟩
theorem QAtS.kept {X : Nat → Prop} (h : QAtS B w b F most q tk f c) (hk : Kept X w w') (hX : ∀ k, F k → ¬ X k) : QAtS B w' b F most q tk f c := by
  obtain ⟨ba, mb, G, h, hF⟩ := h
  exact ⟨ba, mb, G, h.kept hk (fun k hk => hX k (by rw [hF]; exact hk)), hF⟩
theorem QAtS.foot (h : QAtS B w b F most q tk f c) (k : Nat) (hk : F k) : B ≤ k ∧ k < w.heap.size := by
  obtain ⟨ba, mb, G, h, hF⟩ := h
  exact h.foot k (by rw [← hF]; exact hk)
theorem QAS.far (h : QAS B w b F most tk L) (hb : Below w.heap.size w w') : QAS B w' b F most tk L := by
  obtain ⟨q, f, c, Q, ks, h1, h2⟩ := h
  exact ⟨q, f, c, Q, ks, h1.far hb, h2⟩
theorem QAS.kept {X : Nat → Prop} (h : QAS B w b F most tk L) (hk : Kept X w w') (hX : ∀ k, F k → ¬ X k) : QAS B w' b F most tk L := by
  obtain ⟨q, f, c, Q, ks, h1, h2⟩ := h
  exact ⟨q, f, c, Q, ks, h1.kept hk hX, h2⟩
theorem QAS.foot (h : QAS B w b F most tk L) (k : Nat) (hk : F k) : B ≤ k ∧ k < w.heap.size := by
  obtain ⟨q, f, c, Q, ks, h1, h2⟩ := h
  exact h1.foot k hk
end
theorem QNewS_any (B : Nat) (most : Int) (w : World) (hB : B ≤ w.heap.size) :
    Calls Try.prog 21 #[.int .i64 most] w (fun e w' => ∃ b F, e = .returned (.pointer (some ⟨b, 0, none⟩)) ∧ QAS B w' b F (mostA most) 0 [] ∧ (∀ k, F k → w.heap.size ≤ k) ∧ Below w.heap.size w w') :=
  (FNewS_any B most w hB).mono fun _ _ ⟨b, F, h1, h2, h3, h4⟩ => ⟨b, F, h1, ⟨_, _, _, [], [], h2, InvQ.nil _, rfl, by simp, by unfold mostA; omega, by omega, by simp; omega⟩, h3, h4⟩
theorem QLenS_any {B : Nat} {w : World} {b : Nat} {F : Nat → Prop} {most tk : Int} {L : List (Int × ByteArray)} (h : QAS B w b F most tk L) :
    Calls Try.prog 25 #[.pointer (some ⟨b, 0, none⟩)] w (Gives (.int .i64 (L.length : Int)) w) := by
  obtain ⟨q, f, c, Q, ks, h1, h2, h3, _⟩ := h
  have := FLenS_any h1
  rw [h2.n] at this
  rw [← h3, List.length_map]
  exact this
theorem QPushS_any {B : Nat} {w : World} {b : Nat} {F : Nat → Prop} {most tk : Int} {L : List (Int × ByteArray)} (h : QAS B w b F most tk L) (hB : B ≤ w.heap.size) (ht1 : tk ≤ 1000000) (hr : (L.length : Int) < most) (v : ByteArray) :
    Calls Try.prog 22 #[.pointer (some ⟨b, 0, none⟩), .string v] w (fun e w' => e = .returned (.tuple #[.int .i64 (tk + 1), .int .i64 0]) ∧ QRS B b F most (tk + 1) (L ++ [(tk + 1, v)]) w w') := by
  obtain ⟨q, f, c, Q, ks, h1, h2, h3, h4, h5, h6, h7⟩ := h
  have hQL : Q.length = L.length := by rw [← h3, List.length_map]
  have hn : q.S.n < most := by rw [h2.n]; omega
  obtain ⟨S', p, ks', hput, hp, hfn, hll, hinv⟩ := push_inv h2 h6 hn v
  refine (PushS_any h1 hB h2.ok (by omega) (by have := h2.c; omega) h6 ht1 (by omega) v S' p 0 hput (by omega) rfl hfn).mono ?_
  rintro _ w2 ⟨e, F', g1, g2, g3⟩
  refine ⟨e, F', ⟨_, _, _, _, _, g1, hinv, by rw [List.map_append, h3]; rfl, ?_, h5, by omega, by simp; omega⟩, g2, g3⟩
  have hl := hinv.len
  rcases hll with g | g
  · have j := (join_len (z := zLS) (⟨S', q.fi, q.la⟩ : Fq ByteArray) q.la (p : Int)); show (joinF _ _ _ _).S.l.length ≤ 5000; rw [j]; show S'.l.length ≤ 5000; omega
  · have j := (join_len (z := zLS) (⟨S', q.fi, q.la⟩ : Fq ByteArray) q.la (p : Int)); show (joinF _ _ _ _).S.l.length ≤ 5000; rw [j]; show S'.l.length ≤ 5000; omega
theorem QPushFS_any {B : Nat} {w : World} {b : Nat} {F : Nat → Prop} {most tk : Int} {L : List (Int × ByteArray)} (h : QAS B w b F most tk L) (hB : B ≤ w.heap.size) (ht1 : tk ≤ 1000000) (hr : most ≤ (L.length : Int)) (v : ByteArray) :
    Calls Try.prog 22 #[.pointer (some ⟨b, 0, none⟩), .string v] w (fun e w' => e = .returned (.tuple #[.int .i64 0, .int .i64 3]) ∧ QRS B b F most tk L w w') := by
  obtain ⟨q, f, c, Q, ks, h1, h2, h3, h4, h5, h6, h7⟩ := h
  have hQL : Q.length = L.length := by rw [← h3, List.length_map]
  refine (PushFS_any h1 hB h2.ok (by omega) h6 ht1 v (by rw [h2.n]; omega)).mono ?_
  rintro _ w2 ⟨e, F', g1, g2, g3⟩
  exact ⟨e, F', ⟨q, f, c, Q, ks, g1, h2, h3, h4, h5, h6, h7⟩, g2, g3⟩
/-- An item is taken off its place. -/
theorem qtakeS_any {B : Nat} {w : World} {b : Nat} {F : Nat → Prop} {most tk : Int} {q : Fq ByteArray} {f : Int → Option Int} {c : Nat} {Q : List (ItQ ByteArray)} {ks : List Nat} (h1 : QAtS B w b F most q tk f c) (h2 : InvQ zLS q tk f c Q ks) (h4 : q.S.l.length ≤ 5000) (h5 : most ≤ 4096) (h6 : 0 ≤ tk) (h7 : (Q.length : Int) ≤ max most 0) (ht1 : tk ≤ 1000000) (hB : B ≤ w.heap.size) {i : Nat} {x : ItQ ByteArray} (hx : Q[i]? = some x) :
    Calls Try.prog 39 #[.pointer (some ⟨b, 0, none⟩), .int .i64 (x.1 : Int)] w (fun e w' => e = .returned (.tuple #[.string x.2.2, .bool true]) ∧ QRS B b F most tk ((Q.map (·.2)).eraseIdx i) w w') := by
  have his := h2.isA hx
  have hxm := List.mem_of_getElem? hx
  have htk := h2.tk x hxm
  have hil := (List.getElem?_eq_some_iff.1 hx).1
  have hg : (getA zLS q.S (x.1 : Int)).1 = (x.2.2, x.2.1, pv Q i, plc Q (i + 1)) := by rw [getA_slot _ _ his]; exact (h2.link i x hx).1
  have hinv := take_inv h2 hx
  refine (takeS_any h1 hB h2.ok (by omega) (x.1 : Int) his x.2.2 x.2.1 _ _ hg (by unfold I64; omega) (by rw [(h2.f _ _).2 ⟨x, hxm, rfl, rfl⟩]; rfl)).mono ?_
  rintro _ w2 ⟨e, F', g1, g2, g3⟩
  refine ⟨e, F', ⟨_, _, _, _, _, g1, hinv, map_eraseIdx _ _ _, ?_, h5, h6, ?_⟩, g2, g3⟩
  · have := hinv.len
    have e2 := h2.len
    have e3 : (Q.eraseIdx i).length = Q.length - 1 := List.length_eraseIdx_of_lt hil
    rw [this, e3]; simp; omega
  · rw [List.length_eraseIdx_of_lt (by simpa using hil), List.length_map]; omega
theorem QPopS_any {B : Nat} {w : World} {b : Nat} {F : Nat → Prop} {most tk : Int} {x : Int × ByteArray} {L : List (Int × ByteArray)} (h : QAS B w b F most tk (x :: L)) (hB : B ≤ w.heap.size) (ht1 : tk ≤ 1000000) :
    Calls Try.prog 24 #[.pointer (some ⟨b, 0, none⟩)] w (fun e w' => e = .returned (.tuple #[.string x.2, .bool true]) ∧ QRS B b F most tk L w w') := by
  obtain ⟨q, f, c, Q, ks, h1, h2, h3, h4, h5, h6, h7⟩ := h
  cases Q with
  | nil => cases h3
  | cons y Q =>
    simp only [List.map_cons, List.cons.injEq] at h3
    obtain ⟨h3, h8⟩ := h3
    refine FPopS_any h1 _ ?_
    have hfi : q.fi = (y.1 : Int) := h2.fi
    rw [hfi]
    refine (qtakeS_any h1 h2 h4 h5 h6 (by rw [← h8] at h7; simpa using h7) ht1 hB (i := 0) (x := y) rfl).mono ?_
    rintro _ w2 ⟨rfl, g⟩
    refine ⟨_, _, rfl, by rw [← h3], ?_⟩
    simp only [List.map_cons, List.eraseIdx_cons_zero] at g
    rw [← h8]; exact g
theorem QPopNS_any {B : Nat} {w : World} {b : Nat} {F : Nat → Prop} {most tk : Int} (h : QAS B w b F most tk ([] : List (Int × ByteArray))) (hB : B ≤ w.heap.size) :
    Calls Try.prog 24 #[.pointer (some ⟨b, 0, none⟩)] w (fun e w' => e = .returned (.tuple #[.string ⟨#[]⟩, .bool false]) ∧ QRS B b F most tk ([] : List (Int × ByteArray)) w w') := by
  obtain ⟨q, f, c, Q, ks, h1, h2, h3, h4, h5, h6, h7⟩ := h
  cases Q with
  | cons y Q => cases h3
  | nil =>
    refine FPopS_any h1 _ ?_
    have hfi : q.fi = -1 := h2.fi
    rw [hfi]
    refine (takeNS_any h1 hB h2.ok (by omega) (-1) (isA_neg (by omega))).mono ?_
    rintro _ w2 ⟨rfl, F', g1, g2, g3⟩
    exact ⟨⟨#[]⟩, _, rfl, rfl, F', ⟨q, f, c, [], ks, g1, h2, rfl, h4, h5, h6, h7⟩, g2, g3⟩
theorem QRemoveS_any {B : Nat} {w : World} {b : Nat} {F : Nat → Prop} {most tk : Int} {L : List (Int × ByteArray)} (h : QAS B w b F most tk L) (hB : B ≤ w.heap.size) (ht1 : tk ≤ 1000000) {i : Nat} {x : Int × ByteArray} (hx : L[i]? = some x) :
    Calls Try.prog 23 #[.pointer (some ⟨b, 0, none⟩), .int .i64 x.1] w (fun e w' => e = .returned (.tuple #[.string x.2, .bool true]) ∧ QRS B b F most tk (L.eraseIdx i) w w') := by
  obtain ⟨q, f, c, Q, ks, h1, h2, h3, h4, h5, h6, h7⟩ := h
  subst h3
  rw [List.getElem?_map] at hx
  obtain ⟨y, hy, rfl⟩ := Option.map_eq_some_iff.1 hx
  have hym := List.mem_of_getElem? hy
  have htk := h2.tk y hym
  refine FRemoveS_any h1 y.2.1 (by unfold I64; omega) (y.1 : Int) ((h2.f _ _).2 ⟨y, hym, rfl, rfl⟩) (by omega) _ ?_
  refine (qtakeS_any h1 h2 h4 h5 h6 (by simpa using h7) ht1 hB hy).mono ?_
  rintro _ w2 ⟨rfl, g⟩
  exact ⟨_, _, rfl, rfl, g⟩
theorem QRemoveNS_any {B : Nat} {w : World} {b : Nat} {F : Nat → Prop} {most tk : Int} {L : List (Int × ByteArray)} (h : QAS B w b F most tk L) (t : Int) (hti : I64 t) (hn : ∀ x ∈ L, x.1 ≠ t) :
    Calls Try.prog 23 #[.pointer (some ⟨b, 0, none⟩), .int .i64 t] w (fun e w' => e = .returned (.tuple #[.string ⟨#[]⟩, .bool false]) ∧ w' = w) := by
  obtain ⟨q, f, c, Q, ks, h1, h2, h3, _⟩ := h
  refine FRemoveNS_any h1 t hti ?_
  cases e : f t with
  | none => rfl
  | some p =>
    obtain ⟨y, hy, h4, _⟩ := (h2.f _ _).1 e
    exact (hn y.2 (by rw [← h3]; exact List.mem_map_of_mem hy) h4).elim

end Go.Proofs.Ytifdogmlaengoaa
