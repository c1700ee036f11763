/-
  Layer 35: the window of strings. (Printed by mkS.py.) No condition.
-/
import Derived.Test.YtplkekmegonenaaWinD
import Derived.Laws.Cover1
namespace Go.Proofs.Ytplkekmegonenaa.Str
open Go.RowKit
theorem nan_any (a : ByteArray) (w : World) : Calls Try.prog 31 #[.string a] w (fun e w' => e = .returned (.bool false) ∧ w' = w) := by
  go_enter Try.func31, Try.ntmps31
  go_wp2
  go_ret
  exact ⟨by simp, rfl⟩
def cmpS (a b : ByteArray) : Int := if Op.bytesLess a.toList b.toList then -1 else if a.toList == b.toList then 0 else 1
set_option maxHeartbeats 1000000 in
theorem compareS_any (a b : ByteArray) (w : World) : Calls Try.prog 29 #[.string a, .string b] w (fun e w' => e = .returned (.int .i64 (cmpS a b)) ∧ w' = w) := by
  cases h : Op.bytesLess a.toList b.toList with
  | true =>
    have HE := hid (show cmpS a b = -1 by unfold cmpS; rw [h]; rfl)
    go_enter Try.func29, Try.ntmps29
    go_wp2_with (go_at_call 31; refine (nan_any _ _).mono ?_; rintro _ _ ⟨rfl, rfl⟩)
    go_ret
    exact ⟨by rw [HE.out]; rfl, rfl⟩
  | false =>
    cases h2 : (a.toList == b.toList) with
    | true =>
      have HE := hid (show cmpS a b = 0 by unfold cmpS; rw [h, h2]; rfl)
      go_enter Try.func29, Try.ntmps29
      go_wp2_with (go_at_call 31; refine (nan_any _ _).mono ?_; rintro _ _ ⟨rfl, rfl⟩)
      go_ret
      exact ⟨by rw [HE.out]; rfl, rfl⟩
    | false =>
      have HE := hid (show cmpS a b = 1 by unfold cmpS; rw [h, h2]; rfl)
      go_enter Try.func29, Try.ntmps29
      go_wp2_with (go_at_call 31; refine (nan_any _ _).mono ?_; rintro _ _ ⟨rfl, rfl⟩)
      go_ret
      exact ⟨by rw [HE.out]; rfl, rfl⟩
theorem compareS_gives (a b : ByteArray) (w : World) : Calls Try.prog 29 #[.string a, .string b] w (Gives (.int .i64 (cmpS a b)) w) :=
  (compareS_any a b w).mono fun _ _ ⟨h1, h2⟩ => by subst h2; subst h1; exact Gives.refl rfl
def i64s (l : List ByteArray) : List Value := l.map Value.string
theorem i64s_snoc (l : List ByteArray) (x : ByteArray) : i64s l ++ [.string x] = i64s (l ++ [x]) := by simp [i64s]
abbrev It := ByteArray × Int
def beat (sg : Int) (v : ByteArray) (y : It) : Bool := decide (0 ≤ cmpS v y.1 * sg)
/-- Those at the end that are beaten go. -/
def cutB (sg : Int) (v : ByteArray) : List It → List It
  | b => (b.reverse.dropWhile (beat sg v)).reverse
def pushB (sg : Int) (b : List It) (x : It) : List It := cutB sg x.1 b ++ [x]
def dropB (b : List It) (a : Int) : List It := b.dropWhile fun y => decide (y.2 < a)
theorem cut_nil (sg : Int) (v : ByteArray) : cutB sg v [] = [] := rfl
theorem cut_beat {sg : Int} {v : ByteArray} {b : List It} {y : It} (h : beat sg v y = true) : cutB sg v (b ++ [y]) = cutB sg v b := by simp [cutB, h]
theorem cut_stay {sg : Int} {v : ByteArray} {b : List It} {y : It} (h : beat sg v y = false) : cutB sg v (b ++ [y]) = b ++ [y] := by simp [cutB, h]
theorem info_it : (Try.prog.info? 60).map (fun i => (i.zero, i.size, i.bytes)) = some (some (.agg #[.string ⟨#[]⟩, .int .i64 0]), 2, 24) := by kernel_rfl
abbrev itV (x : It) : List Value := [.string x.1, .int .i64 x.2]
theorem itV_length (x : It) : (itV x).length = 2 := rfl
abbrev tI : TypeId := 60
/-- A row of items in a cell of an object, and a second one that lies apart from it. -/
structure BstAt (B : Nat) (w : World) (b q : Nat) (cs : Array Value) (v : Value) (n : Nat) (l : List It) (vo : Value) (lo : List It) : Prop where
  big : B ≤ b
  rec_ : Rec w b 57 cs
  at_ : cs[q]? = some v
  row : RowAt w B tI 2 v n (tab itV l)
  oth : RowAt w B tI 2 vo lo.length (tab itV lo)
  ap : Apart vo v
def PushP (B b q : Nat) (cs : Array Value) (l' : List It) (vo : Value) (lo : List It) (w : World) (e : Ending) (w' : World) : Prop :=
  (∃ r, e = .returned r) ∧ (∃ v', BstAt B w' b q (cs.setIfInBounds q v') v' l'.length l' vo lo) ∧ Below B w w' ∧ KeptT b (· = tI) w w'
theorem BstAt.len {B : Nat} {w : World} {b q n : Nat} {cs : Array Value} {v vo : Value} {l lo : List It} (h : BstAt B w b q cs v n l vo lo) : l.length = n := by
  have := h.row.1
  rw [tab_length itV_length] at this
  omega
theorem BstAt.far {B : Nat} {w w' : World} {b q n : Nat} {cs : Array Value} {v vo : Value} {l lo : List It} (h : BstAt B w b q cs v n l vo lo) (hb : Below w.heap.size w w') : BstAt B w' b q cs v n l vo lo :=
  ⟨h.big, h.rec_.below hb (Nat.le_refl _), h.at_, h.row.below hb, h.oth.below hb, h.ap⟩
/-- The last one goes. -/
theorem BstAt.pop {B : Nat} {w : World} {b q n g off cap : Nat} {cs : Array Value} {vo : Value} {l lo : List It} {y : It} (hq : q < cs.size) (h : BstAt B w b q cs (.slice (some ⟨g, off, none⟩) (n + 1) cap) (n + 1) (l ++ [y]) vo lo) :
    BstAt B (w.setCell ⟨b, q, none⟩ (.slice (some ⟨g, off, none⟩) n cap)) b q (cs.setIfInBounds q (.slice (some ⟨g, off, none⟩) n cap)) (.slice (some ⟨g, off, none⟩) n cap) n l vo lo := by
  have hl := h.len
  simp at hl
  have hr := h.row
  rw [← tab_snoc] at hr
  have hr2 := hr.popEnd (by rw [tab_length itV_length, hl])
  refine ⟨h.big, Rec.set h.rec_ q _, by simp [hq], hr2.setB h.rec_ (by decide) q _, h.oth.setB h.rec_ (by decide) q _, ?_⟩
  rcases h.ap with h0 | h0 | h0
  · exact .inl h0
  · cases h0
  · exact .inr (.inr h0)
structure PuP (B : Nat) (w : World) (b q bx : Nat) (cs : Array Value) (A0 : Option Addr) (c0 : Nat) (l : List It) (vo : Value) (lo : List It) (sg : Int) (x : It) (m : Nat) (wr : World) : Prop where
  le : m ≤ l.length
  cut : cutB sg x.1 (l.take m) = cutB sg x.1 l
  bst : BstAt B wr b q (cs.setIfInBounds q (.slice A0 m c0)) (.slice A0 m c0) m (l.take m) vo lo
  box : Rec wr bx tI #[.string x.1, .int .i64 x.2]
  below : Below B w wr
  kept : KeptT b (· = tI) w wr
def lenAt (b q : Nat) (wr : World) : Nat := match wr.cell? ⟨b, q, none⟩ with | some (.slice _ m _) => m | _ => 0
theorem cmp_beat (sg : Int) (v : ByteArray) (y : It) (hsg : sg = 1 ∨ sg = -1) : decide (0 ≤ cmpS v y.1 * sg) = beat sg v y := by
  rfl
theorem cmp_wrap (v y : ByteArray) (sg : Int) (hsg : sg = 1 ∨ sg = -1) : IntKind.i64.wrap (cmpS v y * sg) = cmpS v y * sg := by
  rw [IntKind.wrap_i64]
  unfold cmpS
  rcases hsg with rfl | rfl <;> (split; omega; split <;> omega)
theorem take_last {l : List It} {j : Nat} (h : j < l.length) : l.take (j + 1) = l.take j ++ [l[j]] := by rw [List.take_add_one]; simp [h]
/-- Behind the loop. -/
structure PuE (B : Nat) (w : World) (b q bx : Nat) (cs : Array Value) (A : Option Addr) (c0 : Nat) (l' : List It) (vo : Value) (lo : List It) (x : It) (m : Nat) (wr : World) : Prop where
  bst : BstAt B wr b q cs (.slice A m c0) m l' vo lo
  box : Rec wr bx tI #[.string x.1, .int .i64 x.2]
  below : Below B w wr
  kept : KeptT b (· = tI) w wr
theorem PuP.ends {B : Nat} {w wr wq : World} {b q bx m c0 : Nat} {cs : Array Value} {A0 : Option Addr} {vo : Value} {l lo : List It} {sg : Int} {x : It} (h : PuP B w b q bx cs A0 c0 l vo lo sg x m wr) (hB : B ≤ w.heap.size) (hb : Below wr.heap.size wr wq) :
    PuE B w b q bx (cs.setIfInBounds q (.slice A0 m c0)) A0 c0 (l.take m) vo lo x m wq :=
  ⟨h.bst.far hb, h.box.below hb (Nat.le_refl _), h.below.trans (hb.mono (Nat.le_trans hB h.below.size)), h.kept.trans (KeptT.of_below hb _ _)⟩
theorem PuE.drew {B : Nat} {w wq : World} {b q bx m c0 : Nat} {cs : Array Value} {A : Option Addr} {vo : Value} {l' lo : List It} {x : It} (h : PuE B w b q bx cs A c0 l' vo lo x m wq) : PuE B w b q bx cs A c0 l' vo lo x m wq.drew :=
  ⟨h.bst.far (Below.refl _ _).drew, h.box.drew, h.below.drew, h.kept.trans (KeptT.of_below (Below.refl _ _).drew _ _)⟩
/-- The new one comes. -/
theorem PuE.new {B : Nat} {w wq w3 : World} {b q bx m c0 g off cap : Nat} {cs : Array Value} {A : Option Addr} {vo : Value} {l' lo : List It} {x : It} (h : PuE B w b q bx cs A c0 l' vo lo x m wq) (hq : q < cs.size) (hB : B ≤ wq.heap.size)
    (ho : RowAt w3 B tI 2 (.slice (some ⟨g, off, none⟩) (m + 1) cap) (m + 1) (tab itV l' ++ [.string x.1, .int .i64 x.2])) (hg : wq.grownBy w3 (Value.slice A m c0).ownBlock)
    (ha : ∀ v', Apart v' (.slice A m c0) → (∀ k, v'.ownBlock = some k → k < wq.heap.size) → Apart v' (.slice (some ⟨g, off, none⟩) (m + 1) cap)) :
    Rec w3 b 57 cs ∧
    (∃ v', BstAt B (w3.setCell ⟨b, q, none⟩ (.slice (some ⟨g, off, none⟩) (m + 1) cap)) b q (cs.setIfInBounds q v') v' (l' ++ [x]).length (l' ++ [x]) vo lo) ∧ Below B w (w3.setCell ⟨b, q, none⟩ (.slice (some ⟨g, off, none⟩) (m + 1) cap)) ∧
      KeptT b (· = tI) w (w3.setCell ⟨b, q, none⟩ (.slice (some ⟨g, off, none⟩) (m + 1) cap)) := by
  have hr := Rec.grownAt h.bst.rec_ h.bst.row hg (by decide)
  have hl := h.bst.len
  have hoth := h.bst.oth.apart hg h.bst.ap
  have hap := ha vo h.bst.ap (fun k hk => (h.bst.oth.lt hk).2)
  have hl2 : (l' ++ [x]).length = m + 1 := by rw [List.length_append, hl]; rfl
  refine ⟨hr, ⟨_, ⟨h.bst.big, Rec.set hr q _, by simp [hq], ?_, hoth.setB hr (by decide) q _, hap⟩⟩, (h.below.grown hg hB (fun k hk => (h.bst.row.lt hk).1)).setCell (p := ⟨b, q, none⟩) h.bst.big _, (h.kept.trans (KeptT.grownAt h.bst.row hg rfl)).trans (KeptT.setB w3 b q _ _)⟩
  rw [hl2, ← tab_snoc]
  exact ho.setB hr (by decide) q _
set_option maxHeartbeats 1000000 in
theorem push_any (B b q : Nat) (hq : q = 3 ∨ q = 5) (cs : Array Value) (hcs : cs.size = 7) (v : Value) (l : List It) (hl : l.length ≤ 200) (vo : Value) (lo : List It) (sg : Int) (hsg : sg = 1 ∨ sg = -1) (x : It) (w : World) (h : BstAt B w b q cs v l.length l vo lo)
    (hs : cs[q + 1]? = some (.int .i64 sg)) (hB : B ≤ w.heap.size) :
    Calls Try.prog 24 #[.pointer (some ⟨b, q, none⟩), .agg #[.string x.1, .int .i64 x.2]] w (PushP B b q cs (pushB sg l x) vo lo w) := by
  obtain ⟨j0, ji, jz0, jz1, jz2⟩ := info_parts info_it
  have HJ := hid ji
  clear ji
  obtain ⟨xv, xa⟩ := x
  obtain ⟨bx, ebx⟩ : ∃ bx, w.heap.size = bx := ⟨_, rfl⟩
  have hlt0 := Rec.lt h.rec_
  have hbx : b ≠ bx := by omega
  have HH := hid h
  have EBX := hid ebx
  obtain ⟨A0, c0, rfl⟩ := h.row.shape
  clear h
  go_enter Try.func24, Try.ntmps24
  have hq7 : q < 7 := by omega
  have HQ := hid hq
  have hs' : ∀ u, (cs.setIfInBounds q u)[q + 1]? = some (.int .i64 sg) := fun u => by rw [Array.getElem?_setIfInBounds_ne (by omega)]; exact hs
  have hqs : ∀ u, (cs.setIfInBounds q u)[q]? = some u := fun u => by simp [hcs, hq7]
  have hcut0 : cs.setIfInBounds q (.slice A0 l.length c0) = cs := by
    have := HH.out.at_
    apply Array.ext
    · simp
    · intro i h1 h2
      rw [Array.getElem_setIfInBounds]
      split
      · subst_vars
        have h3 := (Array.getElem?_eq_some_iff.1 this).2
        exact h3.symm
      · rfl
  go_wp2_with fail
  obtain ⟨w1, ew1⟩ : ∃ w1, w1 = w.alloc (.cells #[.string xv, .int .i64 xa] tI) := ⟨_, rfl⟩
  have hb1 : Below w.heap.size w w1 := by rw [ew1]; exact (Below.refl _ w).alloc (Nat.le_refl _) _
  have J0 := hid (show PuP B w b q bx cs A0 c0 l vo lo sg (xv, xa) l.length w1 from
    ⟨Nat.le_refl _, by rw [List.take_length], by rw [List.take_length, hcut0]; exact HH.out.far hb1, by rw [ew1, ← EBX.out]; exact Rec.new w _ _, hb1.mono hB, KeptT.of_below hb1 _ _⟩)
  have HS' := hid hs'
  have HQS := hid hqs
  have HSG := hid hsg
  have HCS := hid hcs
  rw [← ew1]
  clear ew1 hb1 hcut0 hs' hqs hs ebx hsg hcs
  go_loopw [4] (fun _ wr => ∃ m, Hid (PuP B w b q bx cs A0 c0 l vo lo sg (xv, xa) m wr)) (fun _ wr => lenAt b q wr)
  case atStart => exact ⟨l.length, J0⟩
  case round =>
    clear J0
    obtain ⟨m, HP⟩ := hrel
    have q0 : wr.cell? ⟨b, q, none⟩ = some (.slice A0 m c0) := by rw [Rec.cell HP.out.bst.rec_]; exact HQS.out _
    have q1 : wr.cell? ⟨b, q + 1, none⟩ = some (.int .i64 sg) := by rw [Rec.cell HP.out.bst.rec_]; exact HS'.out _
    have x0 : wr.cell? ⟨bx, 0, none⟩ = some (.string xv) := by rw [Rec.cell HP.out.box]; rfl
    have hm0 : lenAt b q wr = m := by unfold lenAt; rw [q0]
    rcases Nat.eq_zero_or_pos m with hz | hz
    · subst hz
      have HPE := hid (show pushB sg l (xv, xa) = [(xv, xa)] by
        have := HP.out.cut
        rw [List.take_zero, cut_nil] at this
        unfold pushB; rw [← this]; rfl)
      go_wp2_with fail
      refine wp_region_past (by kernel_rfl) (by kernel_rfl) ?_
      repeat (go_big_quiet_step ((fail)))
      refine wpQuiet_nil ?_
      rintro _ ⟨_, rfl⟩
      rename_i xq
      obtain ⟨wq, ewq⟩ : ∃ wq, wq = wr.past xq := ⟨_, rfl⟩
      have he := HP.out.ends hB (show Below wr.heap.size wr wq by rw [ewq]; exact wr.below_past xq)
      rw [← ewq]
      have HE := hid he
      have HM := hid (show 0 ≤ 200 by have := HP.out.le; omega)
      have HBQ := hid (Nat.le_trans hB he.below.size)
      have r0 : wq.cell? ⟨b, q, none⟩ = some (.slice A0 0 c0) := by rw [Rec.cell he.bst.rec_]; exact HQS.out _
      have r1 : wq.cell? ⟨bx, 0, none⟩ = some (.string xv) := by rw [Rec.cell he.box]; rfl
      have r2 : wq.cell? ⟨bx, 1, none⟩ = some (.int .i64 xa) := by rw [Rec.cell he.box]; rfl
      have hs3 : B ≤ wq.heap.size := HBQ.out
      have ltb := Rec.lt he.bst.rec_
      have ltx := Rec.lt he.box
      have R0 := hid r0
      have R1 := hid r1
      have R2 := hid r2
      have HBX := hid hbx
      clear ewq he q0 q1 x0 r0 r1 r2
      go_wp2_with fail
      have r0 := R0.out
      have r1 := R1.out
      have r2 := R2.out
      have HED := hid HE.out.drew
      have hm2 := HM.out
      go_region_law ((refine step_pushAt rfl (.tmp 52) (.tmp 54) 52 rfl tI j0 (.agg #[.string ⟨#[]⟩, .int .i64 0]) 2 24 Try.underlying52 HJ.out jz0 jz1 jz2 rfl (by decide) B ?_ (.slice A0 0 c0) 0 (tab itV (l.take 0)) ?_ HED.out.bst.row _ #[.string xv, .int .i64 xa] ?_ rfl rfl ?_ ?_ ?_ ?_; (· exact hs3); (· rfl); (· simp [go_sem]); (· simp [Value.oneCell']); (· omega); (· unfold maxLen; omega); intro w3 g3 o3 c3 ho3 hg3 ha3; have HN := hid (HED.out.new (by simp [HCS.out, hq7]) hs3 ho3 hg3 ha3); have d13 : w3.cell? ⟨b, q, none⟩ = some (.slice A0 0 c0) := (by rw [Rec.cell HN.out.1]; exact HQS.out _); have f13 : w3.frozen? ⟨b, q, none⟩ = false := Rec.frozen HN.out.1 q; have lt3 := Rec.lt HN.out.1; clear ho3 hg3 ha3))
      all_goals (
        go_wp2_with fail
        refine bodyPost_ret (results_none rfl _ _ _) rfl ?_
        obtain ⟨_, ⟨v', hb'⟩, h2, h3⟩ := HN.out
        rw [Array.setIfInBounds_setIfInBounds] at hb'
        rw [HPE.out]
        exact ⟨⟨_, rfl⟩, ⟨v', hb'⟩, h2, h3⟩)
    · obtain ⟨j, rfl⟩ : ∃ j, m = j + 1 := ⟨m - 1, by omega⟩
      have hjl : j < l.length := by have := HP.out.le; omega
      have hbst := HP.out.bst
      rw [take_last hjl] at hbst
      obtain ⟨g, off, cp, eA, hg, _⟩ := hbst.row.succ (by omega)
      cases eA
      obtain ⟨y, ey⟩ : ∃ y, l[j] = y := ⟨_, rfl⟩
      rw [ey] at hbst
      have y0 : wr.cell? ⟨g, off + j * 2, none⟩ = some (.string y.1) := by
        rw [hbst.row.at (by omega)]
        have h1 := tab_get itV_length (l.take j ++ [y]) j y 0 (by rw [List.getElem?_append_right (by rw [List.length_take]; omega)]; simp [Nat.min_eq_left (Nat.le_of_lt hjl)]) (by omega)
        simpa using h1
      have e2 : IntKind.i64.wrap (((j + 1 : Nat) : Int) - 1) = j := by rw [IntKind.wrap_i64]; omega
      have hjj : j < j + 1 := Nat.lt_succ_self j
      have HC := hid (fun W => compareS_gives xv y.1 W)
      have ew := cmp_wrap xv y.1 sg HSG.out
      have eb := cmp_beat sg xv y HSG.out
      obtain ⟨cc, ecc⟩ : ∃ cc, cmpS xv y.1 = cc := ⟨_, rfl⟩
      rw [ecc] at HC ew eb
      have HBST := hid hbst
      have hle : j + 1 ≤ l.length := hjl
      have HY := hid ey
      clear hbst ecc ey hg
      cases hbt : beat sg xv y with
      | true =>
        rw [hbt] at eb
        go_wp2_with fail
        refine wp_region_past (by kernel_rfl) (by kernel_rfl) ?_
        repeat (go_big_quiet_step ((first | (go_at_call 29; first | with_reducible exact Calls.in_past (HC.out _) | with_reducible exact Calls.in_past2 (HC.out _)) | (go_at_call 29; first | exact Calls.in_past (HC.out _) | exact Calls.in_past2 (HC.out _)))))
        refine wpQuiet_nil ?_
        rintro _ ⟨_, rfl⟩
        rename_i xq
        obtain ⟨wp, ewp⟩ : ∃ wp, wp = wr.past xq := ⟨_, rfl⟩
        have hbp : Below wr.heap.size wr wp := by rw [ewp]; exact wr.below_past xq
        have hbst := HBST.out.far hbp
        have hpop := hbst.pop (by simp [HCS.out, hq7])
        have hbox := HP.out.box.below hbp (Nat.le_refl _)
        have hbel := HP.out.below.trans (hbp.mono (Nat.le_trans hB HP.out.below.size))
        have hkep := HP.out.kept.trans (KeptT.of_below hbp _ _)
        have HPOP := hid hpop
        have HBOX := hid hbox
        have HBEL := hid hbel
        have HKEP := hid hkep
        have HE3 := hid (show IntKind.i64.wrap (j : Int) = j by rw [IntKind.wrap_i64]; omega)
        have HBIG := hid hbst.big
        have HQ0 := hid (show wp.cell? ⟨b, q, none⟩ = some (.slice (some ⟨g, off, none⟩) (j + 1) c0) by rw [Rec.cell hbst.rec_]; exact HQS.out _)
        have HF0 := hid (show wp.frozen? ⟨b, q, none⟩ = false from Rec.frozen hbst.rec_ q)
        have HLT := hid (Rec.lt hbst.rec_)
        have HCAP := hid (show j ≤ c0 by
          rcases hbst.row.2 with ⟨h, _⟩ | ⟨_, _, _, _, hv, _, _, hnc, _⟩
          · cases h
          · cases hv; omega)
        have HCUT := hid (show cutB sg xv (l.take j) = cutB sg xv l by
          have := HP.out.cut
          rw [take_last hjl, cut_beat (by rw [HY.out]; exact hbt)] at this
          exact this)
        rw [← ewp]
        clear ewp hbp hbst hpop hbox hbel hkep q0 q1 x0 y0
        go_wp2_with fail
        have q0 := HQ0.out
        have hcap := HCAP.out
        have e3 := HE3.out
        go_still_tail 14, (by kernel_rfl)
        change wpList _ _ _ _ _ wp.drew
        clear q0 e2 e3 eb ew
        have T1 := HPOP.out.far (Below.refl _ _).drew
        change BstAt _ (wp.drew.setCell ⟨b, q, none⟩ (.slice (some ⟨g, off, none⟩) j c0)) _ _ _ _ _ _ _ _ at T1
        rw [Array.setIfInBounds_setIfInBounds] at T1
        have hbox2 : Rec (wp.drew.setCell ⟨b, q, none⟩ (.slice (some ⟨g, off, none⟩) j c0)) bx tI #[.string xv, .int .i64 xa] := Rec.set_other (HBOX.out.drew) (p := ⟨b, q, none⟩) hbx _
        have hbel2 := (HBEL.out.drew).setCell (p := ⟨b, q, none⟩) HBIG.out (.slice (some ⟨g, off, none⟩) j c0)
        have hkep2 := (HKEP.out.trans (KeptT.of_below (Below.refl _ _).drew _ _)).trans (KeptT.setB wp.drew b q (.slice (some ⟨g, off, none⟩) j c0) _)
        have q0 : wp.drew.cell? ⟨b, q, none⟩ = some (.slice (some ⟨g, off, none⟩) (j + 1) c0) := HQ0.out
        have f0 : wp.drew.frozen? ⟨b, q, none⟩ = false := HF0.out
        have lt0 : b < wp.drew.heap.size := HLT.out
        have HNEW := hid (show PuP B w b q bx cs (some ⟨g, off, none⟩) c0 l vo lo sg (xv, xa) j (wp.drew.setCell ⟨b, q, none⟩ (.slice (some ⟨g, off, none⟩) j c0)) from
          ⟨by omega, HCUT.out, T1, hbox2, hbel2, hkep2⟩)
        have HLEN := hid (show lenAt b q (wp.drew.setCell ⟨b, q, none⟩ (.slice (some ⟨g, off, none⟩) j c0)) = j by unfold lenAt; rw [Rec.cell T1.rec_, HQS.out])
        clear T1 hbox2 hbel2 hkep2
        generalize wp.drew = w9 at *
        go_wp2
        go_roundw
        case rel => exact ⟨j, HNEW⟩
        case measure => rw [HLEN.out, hm0]; omega
      | false =>
        rw [hbt] at eb
        have HPE := hid (show pushB sg l (xv, xa) = l.take (j + 1) ++ [(xv, xa)] by
          have := HP.out.cut
          rw [take_last hjl, cut_stay (by rw [HY.out]; exact hbt)] at this
          unfold pushB
          rw [← this, take_last hjl])
        go_wp2_with fail
        refine wp_region_past (by kernel_rfl) (by kernel_rfl) ?_
        repeat (go_big_quiet_step ((first | (go_at_call 29; first | with_reducible exact Calls.in_past (HC.out _) | with_reducible exact Calls.in_past2 (HC.out _)) | (go_at_call 29; first | exact Calls.in_past (HC.out _) | exact Calls.in_past2 (HC.out _)))))
        refine wpQuiet_nil ?_
        rintro _ ⟨_, rfl⟩
        rename_i xq
        obtain ⟨wq, ewq⟩ : ∃ wq, wq = wr.past xq := ⟨_, rfl⟩
        have he := HP.out.ends hB (show Below wr.heap.size wr wq by rw [ewq]; exact wr.below_past xq)
        rw [← ewq]
        have HE := hid he
        have HM := hid (show (j + 1) ≤ 200 by have := HP.out.le; omega)
        have HBQ := hid (Nat.le_trans hB he.below.size)
        have r0 : wq.cell? ⟨b, q, none⟩ = some (.slice (some ⟨g, off, none⟩) (j + 1) c0) := by rw [Rec.cell he.bst.rec_]; exact HQS.out _
        have r1 : wq.cell? ⟨bx, 0, none⟩ = some (.string xv) := by rw [Rec.cell he.box]; rfl
        have r2 : wq.cell? ⟨bx, 1, none⟩ = some (.int .i64 xa) := by rw [Rec.cell he.box]; rfl
        have hs3 : B ≤ wq.heap.size := HBQ.out
        have ltb := Rec.lt he.bst.rec_
        have ltx := Rec.lt he.box
        have R0 := hid r0
        have R1 := hid r1
        have R2 := hid r2
        have HBX := hid hbx
        clear ewq he q0 q1 x0 y0 r0 r1 r2 e2 eb ew
        go_wp2_with fail
        have r0 := R0.out
        have r1 := R1.out
        have r2 := R2.out
        have HED := hid HE.out.drew
        have hm2 := HM.out
        go_region_law ((refine step_pushAt rfl (.tmp 52) (.tmp 54) 52 rfl tI j0 (.agg #[.string ⟨#[]⟩, .int .i64 0]) 2 24 Try.underlying52 HJ.out jz0 jz1 jz2 rfl (by decide) B ?_ (.slice (some ⟨g, off, none⟩) (j + 1) c0) (j + 1) (tab itV (l.take (j + 1))) ?_ HED.out.bst.row _ #[.string xv, .int .i64 xa] ?_ rfl rfl ?_ ?_ ?_ ?_; (· exact hs3); (· rfl); (· simp [go_sem]); (· simp [Value.oneCell']); (· omega); (· unfold maxLen; omega); intro w3 g3 o3 c3 ho3 hg3 ha3; have HN := hid (HED.out.new (by simp [HCS.out, hq7]) hs3 ho3 hg3 ha3); have d13 : w3.cell? ⟨b, q, none⟩ = some (.slice (some ⟨g, off, none⟩) (j + 1) c0) := (by rw [Rec.cell HN.out.1]; exact HQS.out _); have f13 : w3.frozen? ⟨b, q, none⟩ = false := Rec.frozen HN.out.1 q; have lt3 := Rec.lt HN.out.1; clear ho3 hg3 ha3))
        all_goals (
          go_wp2_with fail
          refine bodyPost_ret (results_none rfl _ _ _) rfl ?_
          obtain ⟨_, ⟨v', hb'⟩, h2, h3⟩ := HN.out
          rw [Array.setIfInBounds_setIfInBounds] at hb'
          rw [HPE.out]
          exact ⟨⟨_, rfl⟩, ⟨v', hb'⟩, h2, h3⟩)
/-- The first one goes. -/
theorem BstAt.shift {B : Nat} {w : World} {b q n g off cap : Nat} {cs : Array Value} {vo : Value} {l lo : List It} {y : It} {A' : Option Addr} (hq : q < cs.size) (h : BstAt B w b q cs (.slice (some ⟨g, off, none⟩) (n + 1) cap) (n + 1) (y :: l) vo lo) (hA : A' = if cap = 1 then some ⟨g, off, none⟩ else some ⟨g, off + 2, none⟩) :
    BstAt B (w.setCell ⟨b, q, none⟩ (.slice A' n (cap - 1))) b q (cs.setIfInBounds q (.slice A' n (cap - 1))) (.slice A' n (cap - 1)) n l vo lo := by
  have hr : RowAt w B tI 2 (.slice (some ⟨g, off, none⟩) (n + 1) cap) (n + 1) (itV y ++ tab itV l) := by
    have := h.row
    simpa [tab] using this
  have hr2 := hr.popFront rfl
  rw [← hA] at hr2
  refine ⟨h.big, Rec.set h.rec_ q _, by simp [hq], hr2.setB h.rec_ (by decide) q _, h.oth.setB h.rec_ (by decide) q _, ?_⟩
  rcases h.ap with h0 | h0 | h0
  · exact .inl h0
  · cases h0
  · refine .inr (.inr ?_)
    rw [hA]
    intro he
    apply h0
    rw [he]
    split <;> rfl
structure DrP (B : Nat) (w : World) (b q : Nat) (cs : Array Value) (l : List It) (vo : Value) (lo : List It) (a : Int) (A : Option Addr) (n cap : Nat) (suf : List It) (wr : World) : Prop where
  same : dropB suf a = dropB l a
  bst : BstAt B wr b q (cs.setIfInBounds q (.slice A n cap)) (.slice A n cap) n suf vo lo
  below : Below B w wr
  kept : KeptT b (· = tI) w wr
set_option maxHeartbeats 1000000 in
theorem drop_any (B b q : Nat) (hq : q = 3 ∨ q = 5) (cs : Array Value) (hcs : cs.size = 7) (v : Value) (l : List It) (vo : Value) (lo : List It) (a : Int) (w : World) (h : BstAt B w b q cs v l.length l vo lo) (hB : B ≤ w.heap.size) :
    Calls Try.prog 25 #[.pointer (some ⟨b, q, none⟩), .int .i64 a] w (PushP B b q cs (dropB l a) vo lo w) := by
  obtain ⟨A0, c0, rfl⟩ := h.row.shape
  have hq7 : q < 7 := by omega
  have hqs : ∀ u, (cs.setIfInBounds q u)[q]? = some u := fun u => by simp [hcs, hq7]
  have hcut0 : cs.setIfInBounds q (.slice A0 l.length c0) = cs := by
    have := h.at_
    apply Array.ext
    · simp
    · intro i h1 h2
      rw [Array.getElem_setIfInBounds]
      split
      · subst_vars
        have h3 := (Array.getElem?_eq_some_iff.1 this).2
        exact h3.symm
      · rfl
  have J0 := hid (show DrP B w b q cs l vo lo a A0 l.length c0 l w from ⟨rfl, by rw [hcut0]; exact h, Below.refl _ _, KeptT.refl _ _ _⟩)
  have HQS := hid hqs
  have HCS := hid hcs
  clear h hcut0 hqs hcs
  go_enter Try.func25, Try.ntmps25
  go_wp2_with fail
  go_loopw [4] (fun _ wr => ∃ A n cap suf, Hid (DrP B w b q cs l vo lo a A n cap suf wr)) (fun _ wr => lenAt b q wr)
  case atStart => exact ⟨A0, l.length, c0, l, J0⟩
  case round =>
    clear J0
    obtain ⟨A, n, cap, suf, HP⟩ := hrel
    have q0 : wr.cell? ⟨b, q, none⟩ = some (.slice A n cap) := by rw [Rec.cell HP.out.bst.rec_]; exact HQS.out _
    have f0 : wr.frozen? ⟨b, q, none⟩ = false := Rec.frozen HP.out.bst.rec_ q
    have lt0 := Rec.lt HP.out.bst.rec_
    have hm0 : lenAt b q wr = n := by unfold lenAt; rw [q0]
    have hlen := HP.out.bst.len
    cases suf with
    | nil =>
      obtain rfl : n = 0 := by simpa using hlen.symm
      have HPE := hid (show dropB l a = [] from HP.out.same.symm.trans rfl)
      go_wp2
      refine bodyPost_ret (results_none rfl _ _ _) rfl ?_
      exact ⟨⟨_, rfl⟩, ⟨_, by rw [HPE.out]; exact HP.out.bst⟩, HP.out.below, HP.out.kept⟩
    | cons y t =>
      obtain ⟨j, rfl⟩ : ∃ j, n = j + 1 := ⟨n - 1, by simp at hlen; omega⟩
      have hbst := HP.out.bst
      obtain ⟨g, off, cp, eA, hg, _⟩ := hbst.row.succ (by omega)
      cases eA
      have y1 : wr.cell? ⟨g, off + 1, none⟩ = some (.int .i64 y.2) := by
        rw [hbst.row.at (by omega)]; rfl
      have hcap : 1 ≤ cap := by
        rcases hbst.row.2 with ⟨h, _⟩ | ⟨_, _, _, _, hv, _, _, hnc, _⟩
        · cases h
        · cases hv; omega
      have hB2 : B ≤ wr.heap.size := Nat.le_trans hB HP.out.below.size
      have HBST := hid hbst
      clear hbst hlen hg
      by_cases hya : y.2 < a
      · have HS := hid (show dropB t a = dropB l a by
          rw [← HP.out.same]
          show dropB t a = List.dropWhile _ (y :: t)
          rw [List.dropWhile_cons_of_pos (by simpa using hya)]
          rfl)
        by_cases hc1 : cap = 1
        · subst hc1
          have HSH := hid (HBST.out.shift (A' := some ⟨g, off, none⟩) (by simp [HCS.out, hq7]) rfl)
          go_wp2_with fail
          have hsh := HSH.out
          rw [Array.setIfInBounds_setIfInBounds] at hsh
          exact ⟨⟨_, _, _, t, hid ⟨HS.out, hsh, HP.out.below.setCell (p := ⟨b, q, none⟩) HBST.out.big _, HP.out.kept.trans (KeptT.setB wr b q _ _)⟩⟩, by rw [hm0]; unfold lenAt; rw [Rec.cell hsh.rec_, HQS.out]; simp⟩
        · have HSH := hid (HBST.out.shift (A' := some ⟨g, off + 2, none⟩) (by simp [HCS.out, hq7]) (by rw [if_neg hc1]))
          go_wp2_with fail
          have hsh := HSH.out
          rw [Array.setIfInBounds_setIfInBounds] at hsh
          exact ⟨⟨_, _, _, t, hid ⟨HS.out, hsh, HP.out.below.setCell (p := ⟨b, q, none⟩) HBST.out.big _, HP.out.kept.trans (KeptT.setB wr b q _ _)⟩⟩, by rw [hm0]; unfold lenAt; rw [Rec.cell hsh.rec_, HQS.out]; simp⟩
      · have HPE := hid (show dropB l a = y :: t by
          rw [← HP.out.same]
          show List.dropWhile _ (y :: t) = _
          rw [List.dropWhile_cons_of_neg (by simpa using hya)])
        go_wp2
        refine bodyPost_ret (results_none rfl _ _ _) rfl ?_
        exact ⟨⟨_, rfl⟩, ⟨_, by rw [HPE.out, HBST.out.len]; exact HBST.out⟩, HP.out.below, HP.out.kept⟩
def topF (l : List It) : ByteArray × Bool := match l with | [] => (⟨#[]⟩, false) | y :: _ => (y.1, true)
theorem top_any (B b q : Nat) (hq : q = 3 ∨ q = 5) (cs : Array Value) (v : Value) (n : Nat) (l : List It) (vo : Value) (lo : List It) (w : World) (h : BstAt B w b q cs v n l vo lo) :
    Calls Try.prog 26 #[.pointer (some ⟨b, q, none⟩)] w (Gives (.tuple #[.string (topF l).1, .bool (topF l).2]) w) := by
  obtain ⟨A0, c0, rfl⟩ := h.row.shape
  have q0 : w.cell? ⟨b, q, none⟩ = some (.slice A0 n c0) := by rw [Rec.cell h.rec_]; exact h.at_
  have hl := h.len
  cases l with
  | nil =>
    obtain rfl : n = 0 := by simpa using hl.symm
    clear h hl
    go_enter Try.func26, Try.ntmps26
    go_wp2
    go_ret2
    exact Gives.mk rfl (Below.refl _ _)
  | cons y t =>
    obtain ⟨j, rfl⟩ : ∃ j, n = j + 1 := ⟨n - 1, by simp at hl; omega⟩
    obtain ⟨g, off, cp, eA, hg, _⟩ := h.row.succ (by omega)
    cases eA
    have y1 : w.cell? ⟨g, off, none⟩ = some (.string y.1) := by
      have := h.row.at (j := 0) (by omega)
      rw [Nat.add_zero] at this
      rw [this]; rfl
    clear h hl
    go_enter Try.func26, Try.ntmps26
    go_wp2
    go_ret2
    exact Gives.mk rfl (Below.refl _ _)
end Go.Proofs.Ytplkekmegonenaa.Str
