/-
  From a walk to a row: what an argument's reading gives, and the row's post where nothing that lay there turned. Plain laws over any program. No condition.
-/
import Derived.ProofKit
import Derived.OpenShut
import Derived.Deep.Slices
import Derived.Test.YtdeejiiegmddaaaPast
namespace Go
open Go.RowKit Go.ChangeShapes Go.WideShapes Go.ChangeAt Go.Deep

section
variable {H : Type} {enc : TypeId × Value → H} {P : Program} {W : World}

/-- The cells read as data of type t. -/
def Rd (enc : TypeId × Value → H) (P : Program) (W : World) (t : TypeId) (cs : List Value) : Prop :=
  ∃ fuel x, DataW.trod enc P W 0 (fun _ => true) true fuel t cs = some x

theorem Rd.int {t : TypeId} {cs : List Value} {k : IntKind} (h : Rd enc P W t cs) (ht : P.underlying t = some (.int k)) : ∃ n, cs = [.int k n] ∧ (Lit.int k n).wf = true := by
  obtain ⟨fuel, x, h⟩ := h
  obtain ⟨n, e, _, w⟩ := DataW.trod_int ht h
  exact ⟨n, e, w⟩
theorem Rd.bool {t : TypeId} {cs : List Value} (h : Rd enc P W t cs) (ht : P.underlying t = some .bool) : ∃ b, cs = [.bool b] := by
  obtain ⟨fuel, x, h⟩ := h
  cases fuel with
  | zero => simp [DataW.trod] at h
  | succ n =>
    unfold DataW.trod at h
    rw [ht] at h
    split at h <;> simp_all
theorem Rd.string {t : TypeId} {cs : List Value} (h : Rd enc P W t cs) (ht : P.underlying t = some .string) : ∃ s, cs = [.string s] ∧ s.size ≤ maxLen := by
  obtain ⟨fuel, x, h⟩ := h
  cases fuel with
  | zero => simp [DataW.trod] at h
  | succ n =>
    unfold DataW.trod at h
    rw [ht] at h
    split at h <;> simp_all
theorem Rd.struct {t : TypeId} {cs : List Value} {fs : Array Field} (h : Rd enc P W t cs) (ht : P.underlying t = some (.struct fs)) :
    cs.length = P.cellsOf t ∧ ∀ (i : Nat) (f : Field), fs[i]? = some f → Rd enc P W f.type ((cs.drop f.offset).take (P.cellsOf f.type)) := by
  obtain ⟨fuel, x, h⟩ := h
  obtain ⟨xs, n, _, _, hl, hx, hf⟩ := DataW.trod_struct ht h
  refine ⟨hl, fun i f hi => ?_⟩
  have hlt : i < xs.length := by rw [hx]; exact (Array.getElem?_eq_some_iff.1 hi).1
  exact ⟨n, xs[i], by rw [hf i f hi]; exact List.getElem?_eq_getElem hlt⟩
theorem Rd.array {t e : TypeId} {n : Nat} {cs : List Value} (h : Rd enc P W t cs) (ht : P.underlying t = some (.array n e)) :
    cs.length = P.cellsOf t ∧ ∀ (i : Nat), i < n → Rd enc P W e ((cs.drop (i * P.cellsOf e)).take (P.cellsOf e)) := by
  obtain ⟨fuel, x, h⟩ := h
  obtain ⟨xs, m, _, _, hl, hx, hf⟩ := DataW.trod_array ht h
  refine ⟨hl, fun i hi => ?_⟩
  have hlt : i < xs.length := by omega
  exact ⟨m, xs[i], by rw [hf i hi]; exact List.getElem?_eq_getElem hlt⟩
theorem Rd.field {t : TypeId} {cs : List Value} {fs : Array Field} (h : Rd enc P W t cs) (ht : P.underlying t = some (.struct fs)) (i ty off n : Nat)
    (hf : (fs[i]?).map (fun f => (f.type, f.offset)) = some (ty, off)) (hn : P.cellsOf ty = n) : Rd enc P W ty ((cs.drop off).take n) := by
  obtain ⟨f, h1, h2⟩ := Option.map_eq_some_iff.1 hf
  simp only [Prod.mk.injEq] at h2
  obtain ⟨rfl, rfl⟩ := h2
  rw [← hn]
  exact (h.struct ht).2 i f h1
theorem Rd.elem {t e : TypeId} {n : Nat} {cs : List Value} (h : Rd enc P W t cs) (ht : P.underlying t = some (.array n e)) (i : Nat) (hi : i < n) (c : Nat) (hc : P.cellsOf e = c) : Rd enc P W e ((cs.drop (i * c)).take c) := by
  subst hc
  exact (h.array ht).2 i hi
theorem Rd.len_struct {t : TypeId} {cs : Array Value} {fs : Array Field} (h : Rd enc P W t cs.toList) (ht : P.underlying t = some (.struct fs)) {n : Nat} (hc : P.cellsOf t = n) : cs.toList.length = n := by
  subst hc; exact (h.struct ht).1
theorem Rd.len_array {t e : TypeId} {m : Nat} {cs : Array Value} (h : Rd enc P W t cs.toList) (ht : P.underlying t = some (.array m e)) {n : Nat} (hc : P.cellsOf t = n) : cs.toList.length = n := by
  subst hc; exact (h.array ht).1
theorem Rd.slice {t e : TypeId} {cs : List Value} (h : Rd enc P W t cs) (ht : P.underlying t = some (.slice e)) :
    cs = [.slice none 0 0] ∨ ∃ (a : Addr) (len cap : Nat), cs = [.slice (some a) len cap] ∧ len ≤ cap ∧ cap ≤ maxLen ∧
      ∀ i, i < cap → ∃ ds : List Value, ds.length = P.cellsOf e ∧ (∀ j u, ds[j]? = some u → W.cell? ((a.add (i * P.cellsOf e)).add j) = some u) ∧ Rd enc P W e ds := by
  obtain ⟨fuel, x, h⟩ := h
  rcases open_slice ht h with ⟨e1, _⟩ | ⟨a, len, cap, m, n, D, Pl, e1, _, hl, hm, hmm, _, hi⟩
  · exact .inl e1
  · refine .inr ⟨a, len, cap, e1, hl, hm, fun i h => ?_⟩
    obtain ⟨ds, hc, ht'⟩ := hi i (by simpa [hmm] using h)
    obtain ⟨h1, h2, h3⟩ := World.cells?_some hc
    exact ⟨ds, by omega, fun j u hu => by rw [h3 j (by have := (List.getElem?_eq_some_iff.1 hu).1; omega), hu], ⟨n, _, ht'⟩⟩

/-- A value of type t. -/
theorem rd_agg {base : Nat} {t : TypeId} {v : Value} {d : DataW H} {p : List MemPlace} (hs : (∃ fs, P.underlying t = some (.struct fs)) ∨ ∃ n e, P.underlying t = some (.array n e))
    (hv : Value.okWide P W .any base t v) (h : DataW.Trod enc P W 0 (fun _ => true) true t v d p) : ∃ cs : Array Value, v = .agg cs ∧ Rd enc P W t cs.toList := by
  obtain ⟨fuel, hf⟩ := h
  rcases hs with ⟨fs, hs⟩ | ⟨n, e, hs⟩
  all_goals
    simp only [Value.okWide, hs] at hv
    obtain ⟨cs, rfl, _, _⟩ := hv
    exact ⟨cs, rfl, fuel, _, hf⟩
theorem rd_slice {base : Nat} {t e : TypeId} {v : Value} {d : DataW H} {p : List MemPlace} (ht : P.underlying t = some (.slice e))
    (hv : Value.okWide P W .any base t v) (h : DataW.Trod enc P W 0 (fun _ => true) true t v d p) : Rd enc P W t [v] := by
  obtain ⟨fuel, hf⟩ := h
  obtain ⟨a0, len, cap, rfl⟩ := okWide_slice ht hv
  exact ⟨fuel, _, hf⟩
end

theorem cs_one {cs : List Value} (h : cs.length = 1) : ∃ a, cs = [a] := by
  match cs, h with | [a], _ => exact ⟨a, rfl⟩
theorem cs_two {cs : List Value} (h : cs.length = 2) : ∃ a b, cs = [a, b] := by
  match cs, h with | [a, b], _ => exact ⟨a, b, rfl⟩
theorem cs_three {cs : List Value} (h : cs.length = 3) : ∃ a b c, cs = [a, b, c] := by
  match cs, h with | [a, b, c], _ => exact ⟨a, b, c, rfl⟩
theorem cs_four {cs : List Value} (h : cs.length = 4) : ∃ a b c d, cs = [a, b, c, d] := by
  match cs, h with | [a, b, c, d], _ => exact ⟨a, b, c, d, rfl⟩
theorem cs_five {cs : List Value} (h : cs.length = 5) : ∃ a b c d e, cs = [a, b, c, d, e] := by
  match cs, h with | [a, b, c, d, e], _ => exact ⟨a, b, c, d, e, rfl⟩
theorem cs_six {cs : List Value} (h : cs.length = 6) : ∃ a b c d e f, cs = [a, b, c, d, e, f] := by
  match cs, h with | [a, b, c, d, e, f], _ => exact ⟨a, b, c, d, e, f, rfl⟩
theorem cs_seven {cs : List Value} (h : cs.length = 7) : ∃ a b c d e f g, cs = [a, b, c, d, e, f, g] := by
  match cs, h with | [a, b, c, d, e, f, g], _ => exact ⟨a, b, c, d, e, f, g, rfl⟩
theorem arr_of {cs : Array Value} {l : List Value} (h : cs.toList = l) : cs = l.toArray := by subst h; rfl

def U64 (s : Int) : Prop := 0 ≤ s ∧ s < 18446744073709551616
def I64 (x : Int) : Prop := -9223372036854775808 ≤ x ∧ x ≤ 9223372036854775807
def U8 (s : Int) : Prop := 0 ≤ s ∧ s < 256
def U16 (s : Int) : Prop := 0 ≤ s ∧ s < 65536
def U32 (s : Int) : Prop := 0 ≤ s ∧ s < 4294967296
theorem i64_of {n : Int} (h : (Lit.int .i64 n).wf = true) : I64 n := by
  simp [Lit.wf, IntKind.min, IntKind.max, IntKind.signed, IntKind.bits] at h
  exact h
theorem u64_of {n : Int} (h : (Lit.int .u64 n).wf = true) : U64 n := by
  simp [Lit.wf, IntKind.min, IntKind.max, IntKind.signed, IntKind.bits] at h
  exact ⟨h.1, by omega⟩
theorem u8_of {n : Int} (h : (Lit.int .u8 n).wf = true) : U8 n := by
  simp [Lit.wf, IntKind.min, IntKind.max, IntKind.signed, IntKind.bits] at h
  exact ⟨h.1, by omega⟩
theorem u16_of {n : Int} (h : (Lit.int .u16 n).wf = true) : U16 n := by
  simp [Lit.wf, IntKind.min, IntKind.max, IntKind.signed, IntKind.bits] at h
  exact ⟨h.1, by omega⟩
theorem u32_of {n : Int} (h : (Lit.int .u32 n).wf = true) : U32 n := by
  simp [Lit.wf, IntKind.min, IntKind.max, IntKind.signed, IntKind.bits] at h
  exact ⟨h.1, by omega⟩

section
variable {H : Type} {enc : TypeId × Value → H} {P : Program} {W W' : World}
theorem trodAll_below (hl : laidOutB P = true) (hb : Below W.heap.size W W') : ∀ (ts : List TypeId) (vs : List Value) (ds : List (DataW H)) (ps : List MemPlace),
    (∀ t ∈ ts, P.readableRec t = true ∧ t < P.types.size) → (∀ x ∈ ps, x.block < W.heap.size) →
    DataW.TrodAll enc P W 0 (fun _ => true) true ts vs ds ps → DataW.TrodAll enc P W' 0 (fun b => decide (b < W.heap.size)) true ts vs ds ps
  | [], [], [], _, _, _, h => h
  | t :: ts, v :: vs, d :: ds, _, ht, hp, h => by
    obtain ⟨p, q, h1, h2, rfl⟩ := h
    refine ⟨p, q, Below.trod hl (ht t (by simp)).1 (ht t (by simp)).2 h1 hb (fun x hx => hp x (by simp [hx])), ?_, rfl⟩
    exact trodAll_below hl hb ts vs ds q (fun t h => ht t (by simp [h])) (fun x hx => hp x (by simp [hx])) h2
  | [], _ :: _, _, _, _, _, h => by simp [DataW.TrodAll] at h
  | [], [], _ :: _, _, _, _, h => by simp [DataW.TrodAll] at h
  | _ :: _, [], _, _, _, _, h => by simp [DataW.TrodAll] at h
  | _ :: _, _ :: _, [], _, _, _, h => by simp [DataW.TrodAll] at h

/-- The row's post of a law: true, and the arguments read as they did. -/
theorem law_post {f : Func} {s : ChangeSpec} {args : Array Value} {ds gs : List (DataW H)} {before : List MemPlace} {tb : TypeId}
    (hl : laidOutB P = true) (hW : DataW.Whole enc P f.params.toList s.vars false W args.toList ds gs before) (hs : s.vars = [])
    (hfn : s.fn H (ds ++ []) = { results := [.lit (.bool true)], args := ds }) (hres : f.resultTypes = #[tb]) (htb : P.underlying tb = some .bool)
    (ht : ∀ t ∈ f.params.toList, P.readableRec t = true ∧ t < P.types.size) (hb : Below W.heap.size W W') :
    s.post enc P f false true false false W args (.bool true) W' := by
  have hW' := hW
  obtain ⟨p, q, hA, hV, hpq, _, _⟩ := hW
  rw [hs] at hV
  cases gs with
  | cons _ _ => simp [DataW.TrodVars] at hV
  | nil =>
    have hq : q = [] := by simpa [DataW.TrodVars] using hV
    subst hq
    subst hpq
    refine ⟨ds, [], _, [], p, [], hW', ?_, ?_, ?_, hb.frame _, fun h => by cases h⟩
    · rw [hfn, hres]; exact trodAll_mk1 (shut_bool htb true)
    · rw [hfn]; exact trodAll_below hl hb _ _ _ _ ht (fun x hx => hW'.lt x (by simpa using hx)) hA
    · rw [hfn, hs]; simp [DataW.TrodVars]
end
end Go
