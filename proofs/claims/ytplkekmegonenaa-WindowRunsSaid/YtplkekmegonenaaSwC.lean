/-
  Layer 35: the window of strings. (Printed by mkS.py.) No condition.
-/
import Derived.Test.YtplkekmegonenaaSwA
import Derived.Laws.Cover1
namespace Go.Proofs.Ytplkekmegonenaa.Str
open Go.RowKit
abbrev tW : TypeId := 57
theorem info_int : (Try.prog.info? 9).map (fun i => (i.zero, i.size, i.bytes)) = some (some (.string ⟨#[]⟩), 1, 16) := by kernel_rfl
structure WM (B : Nat) (w : World) (b : Nat) (most seen : Int) (vl vh vw : Value) (l : List ByteArray) (hi lw : List It) : Prop where
  big : B ≤ b
  rec_ : Rec w b tW #[.int .i64 most, .int .i64 seen, vl, vh, .int .i64 1, vw, .int .i64 (-1)]
  rl : RowAt w B 9 1 vl l.length (i64s l)
  rh : RowAt w B tI 2 vh hi.length (tab itV hi)
  rw_ : RowAt w B tI 2 vw lw.length (tab itV lw)
  ap : Apart vh vw
section
variable {B : Nat} {w w' : World} {b : Nat} {most seen : Int} {vl vh vw : Value} {l : List ByteArray} {hi lw : List It}
theorem WM.far (h : WM B w b most seen vl vh vw l hi lw) (hb : Below w.heap.size w w') : WM B w' b most seen vl vh vw l hi lw :=
  ⟨h.big, h.rec_.below hb (Nat.le_refl _), h.rl.below hb, h.rh.below hb, h.rw_.below hb, h.ap⟩
theorem WM.toHi (h : WM B w b most seen vl vh vw l hi lw) : BstAt B w b 3 #[.int .i64 most, .int .i64 seen, vl, vh, .int .i64 1, vw, .int .i64 (-1)] vh hi.length hi vw lw := ⟨h.big, h.rec_, rfl, h.rh, h.rw_, h.ap.symm⟩
theorem WM.toLo (h : WM B w b most seen vl vh vw l hi lw) : BstAt B w b 5 #[.int .i64 most, .int .i64 seen, vl, vh, .int .i64 1, vw, .int .i64 (-1)] vw lw.length lw vh hi := ⟨h.big, h.rec_, rfl, h.rw_, h.rh, h.ap⟩
theorem WM.fromHi {v' : Value} {hi' : List It} (h : WM B w b most seen vl vh vw l hi lw) (hb : BstAt B w' b 3 (#[.int .i64 most, .int .i64 seen, vl, vh, .int .i64 1, vw, .int .i64 (-1)].setIfInBounds 3 v') v' hi'.length hi' vw lw) (hk : KeptT b (· = tI) w w') :
    WM B w' b most seen vl v' vw l hi' lw :=
  ⟨h.big, by simpa using hb.rec_, h.rl.keptT hk h.rec_ (by decide) (by decide), hb.row, hb.oth, hb.ap.symm⟩
theorem WM.fromLo {v' : Value} {lw' : List It} (h : WM B w b most seen vl vh vw l hi lw) (hb : BstAt B w' b 5 (#[.int .i64 most, .int .i64 seen, vl, vh, .int .i64 1, vw, .int .i64 (-1)].setIfInBounds 5 v') v' lw'.length lw' vh hi) (hk : KeptT b (· = tI) w w') :
    WM B w' b most seen vl vh v' l hi lw' :=
  ⟨h.big, by simpa using hb.rec_, h.rl.keptT hk h.rec_ (by decide) (by decide), hb.oth, hb.row, hb.ap⟩
theorem WM.count (h : WM B w b most seen vl vh vw l hi lw) (s : Int) : WM B (w.setCell ⟨b, 1, none⟩ (.int .i64 s)) b most s vl vh vw l hi lw :=
  ⟨h.big, by have := Rec.set h.rec_ 1 (.int .i64 s); simpa using this, h.rl.setB h.rec_ (by decide) 1 _, h.rh.setB h.rec_ (by decide) 1 _, h.rw_.setB h.rec_ (by decide) 1 _, h.ap⟩
theorem WM.append {w3 : World} {g off cap n : Nat} {x : ByteArray} (h : WM B w b most seen vl vh vw l hi lw) (hn : l.length = n) (ho : RowAt w3 B 9 1 (.slice (some ⟨g, off, none⟩) (n + 1) cap) (n + 1) (i64s l ++ [.string x])) (hg : w.grownBy w3 vl.ownBlock) :
    Rec w3 b tW #[.int .i64 most, .int .i64 seen, vl, vh, .int .i64 1, vw, .int .i64 (-1)] ∧ WM B (w3.setCell ⟨b, 2, none⟩ (.slice (some ⟨g, off, none⟩) (n + 1) cap)) b most seen (.slice (some ⟨g, off, none⟩) (n + 1) cap) vh vw (l ++ [x]) hi lw := by
  have hr := Rec.grownAt h.rec_ h.rl hg (by decide)
  have hh := h.rh.apart hg (h.rh.apart_types h.rl (by decide))
  have hw := h.rw_.apart hg (h.rw_.apart_types h.rl (by decide))
  refine ⟨hr, ⟨h.big, by have := Rec.set hr 2 (.slice (some ⟨g, off, none⟩) (n + 1) cap); simpa using this, ?_, hh.setB hr (by decide) 2 _, hw.setB hr (by decide) 2 _, h.ap⟩⟩
  rw [show (l ++ [x]).length = n + 1 by rw [List.length_append, hn]; rfl, ← i64s_snoc]
  exact ho.setB hr (by decide) 2 _
theorem WM.shift {g off cap n : Nat} {x : ByteArray} {A' : Option Addr} (h : WM B w b most seen (.slice (some ⟨g, off, none⟩) (n + 1) cap) vh vw (x :: l) hi lw) (hA : A' = if cap = 1 then some ⟨g, off, none⟩ else some ⟨g, off + 1, none⟩) :
    WM B (w.setCell ⟨b, 2, none⟩ (.slice A' n (cap - 1))) b most seen (.slice A' n (cap - 1)) vh vw l hi lw := by
  have hn : l.length = n := by
    obtain ⟨A, c, e⟩ := h.rl.shape
    injection e with _ e2 _
    simp at e2
    omega
  have hr : RowAt w B 9 1 (.slice (some ⟨g, off, none⟩) (n + 1) cap) (n + 1) ([.string x] ++ i64s l) := by
    have := h.rl
    rw [List.length_cons, hn] at this
    exact this
  have hr2 := hr.popFront rfl
  rw [← hA] at hr2
  refine ⟨h.big, by have := Rec.set h.rec_ 2 (.slice A' n (cap - 1)); simpa using this, by rw [hn]; exact hr2.setB h.rec_ (by decide) 2 _, h.rh.setB h.rec_ (by decide) 2 _, h.rw_.setB h.rec_ (by decide) 2 _, h.ap⟩
end
structure Wn where
  seen : Nat
  l : List ByteArray
  hi : List It
  lw : List It
def pushW (m : Nat) (S : Wn) (v : ByteArray) : Wn × ByteArray × Bool :=
  if S.l.length + 1 ≤ m then (⟨S.seen + 1, S.l ++ [v], pushB 1 S.hi (v, (S.seen : Int)), pushB (-1) S.lw (v, (S.seen : Int))⟩, ⟨#[]⟩, false)
  else (⟨S.seen + 1, (S.l ++ [v]).tail, dropB (pushB 1 S.hi (v, (S.seen : Int))) ((S.seen : Int) + 1 - m), dropB (pushB (-1) S.lw (v, (S.seen : Int))) ((S.seen : Int) + 1 - m)⟩, ((S.l ++ [v]).head?).getD ⟨#[]⟩, true)
def WAt (B : Nat) (w : World) (b m : Nat) (S : Wn) : Prop := ∃ vl vh vw, WM B w b m S.seen vl vh vw S.l S.hi S.lw
theorem WAt.far {B : Nat} {w w' : World} {b m : Nat} {S : Wn} (h : WAt B w b m S) (hb : Below w.heap.size w w') : WAt B w' b m S := by
  obtain ⟨vl, vh, vw, h⟩ := h
  exact ⟨vl, vh, vw, h.far hb⟩
set_option maxHeartbeats 2000000 in
theorem Push_any (B b m : Nat) (hm : 1 ≤ m ∧ m ≤ 4096) (S : Wn) (hs : S.seen ≤ 190) (hl : S.l.length ≤ 190) (hh : S.hi.length ≤ 190) (hw : S.lw.length ≤ 190) (v : ByteArray) (w : World) (h : WAt B w b m S) (hB : B ≤ w.heap.size) :
    Calls Try.prog 15 #[.pointer (some ⟨b, 0, none⟩), .string v] w (fun e w' => e = .returned (.tuple #[.string (pushW m S v).2.1, .bool (pushW m S v).2.2]) ∧ WAt B w' b m (pushW m S v).1 ∧ Below B w w') := by
  obtain ⟨vl, vh, vw, h⟩ := h
  obtain ⟨Al, cl, rfl⟩ := h.rl.shape
  obtain ⟨n, en⟩ : ∃ n, S.l.length = n := ⟨_, rfl⟩
  obtain ⟨s, es⟩ : ∃ s, S.seen = s := ⟨_, rfl⟩
  obtain ⟨j0, ji, jz0, jz1, jz2⟩ := info_parts info_int
  have HJ := hid ji
  have q2 : w.cell? ⟨b, 2, none⟩ = some (.slice Al S.l.length cl) := by rw [Rec.cell h.rec_]; rfl
  have hbig := h.big
  have ltb := Rec.lt h.rec_
  rw [en] at q2 hl
  rw [es] at hs
  have H0 := hid h
  have EN := hid en
  have ES := hid es
  clear h ji en es
  go_enter Try.func15, Try.ntmps15
  go_wp2_with (at_builtin; refine wpList_pushAt rfl (.tmp 14) (.tmp 16) 55 rfl 9 j0 (.string ⟨#[]⟩) 1 16 Try.underlying55 HJ.out jz0 jz1 jz2 rfl (by decide) B hB (.slice Al n cl) n (i64s S.l) rfl ?ow _ #[.string v] ?c0 rfl rfl ?c1 ?c2 ?c3 ?_)
  case ow => have := H0.out.rl; rw [EN.out] at this; exact this
  case c0 => rfl
  case c1 => simp [Value.oneCell']
  case c2 => omega
  case c3 => unfold maxLen; omega
  intro w3 g3 o3 c3 ho3 hg3 _
  have hg3' : w.grownBy w3 (Value.slice Al S.l.length cl).ownBlock := by rw [EN.out]; exact hg3
  obtain ⟨hr3, hm4⟩ := H0.out.append EN.out ho3 hg3'
  have q2' : w3.cell? ⟨b, 2, none⟩ = some (.slice Al S.l.length cl) := by rw [Rec.cell hr3]; rfl
  have f2' : w3.frozen? ⟨b, 2, none⟩ = false := Rec.frozen hr3 2
  have lt3 := Rec.lt hr3
  obtain ⟨w4, ew4⟩ : ∃ w4, w4 = w3.setCell ⟨b, 2, none⟩ (.slice (some ⟨g3, o3, none⟩) (n + 1) c3) := ⟨_, rfl⟩
  have hb4 : Below B w w4 := by rw [ew4]; exact ((Below.refl B w).grown hg3 hB (fun k hk => (H0.out.rl.lt (by rw [EN.out]; exact hk)).1)).setCell (p := ⟨b, 2, none⟩) hbig _
  rw [← ew4] at hm4
  have HM4 := hid hm4
  have HB4 := hid hb4
  have EW4 := hid ew4
  clear ho3 hg3 hg3' hr3 hm4 ew4 hb4 q2
  go_wp2_with fail
  rw [← EW4.out]
  have p1 : w4.cell? ⟨b, 1, none⟩ = some (.int .i64 (S.seen : Int)) := by rw [Rec.cell HM4.out.rec_]; rfl
  rw [ES.out] at p1
  go_still_tail 9, (by kernel_rfl)
  change wpList _ _ _ _ _ w4.drew
  obtain ⟨w5, ew5⟩ : ∃ w5, w5 = w4.drew := ⟨_, rfl⟩
  have HM5 := hid (show WM B w5 b m s _ vh vw _ S.hi S.lw by rw [ew5, ← ES.out]; exact HM4.out.far (Below.refl _ _).drew)
  have HB5 := hid (show Below B w w5 by rw [ew5]; exact HB4.out.drew)
  have hB5 := Nat.le_trans hB HB5.out.size
  rw [← ew5]
  clear ew5 p1
  go_wp2_with fail
  refine (push_any B b 3 (.inl rfl) _ rfl vh S.hi (by omega) vw S.lw 1 (.inl rfl) (v, (s : Int)) w5 HM5.out.toHi rfl hB5).mono ?_
  rintro _ w6 ⟨⟨r6, rfl⟩, ⟨vh6, hb6⟩, hbel6, hk6⟩
  have HM6 := hid (HM5.out.fromHi hb6 hk6)
  have HB6 := hid (HB5.out.trans hbel6)
  have hB6 := Nat.le_trans hB HB6.out.size
  clear hb6 hbel6 hk6
  have p1 : w6.cell? ⟨b, 1, none⟩ = some (.int .i64 (s : Int)) := by rw [Rec.cell HM6.out.rec_]; rfl
  have P1 := hid p1
  clear p1
  go_wp2_with fail
  have p1 := P1.out
  go_still_tail 9, (by kernel_rfl)
  change wpList _ _ _ _ _ w6.drew
  obtain ⟨w7, ew7⟩ : ∃ w7, w7 = w6.drew := ⟨_, rfl⟩
  have HM7 := hid (show WM B w7 b m s _ vh6 vw _ _ S.lw by rw [ew7]; exact HM6.out.far (Below.refl _ _).drew)
  have HB7 := hid (show Below B w w7 by rw [ew7]; exact HB6.out.drew)
  have hB7 := Nat.le_trans hB HB7.out.size
  rw [← ew7]
  clear ew7 p1
  go_wp2_with fail
  refine (push_any B b 5 (.inr rfl) _ rfl vw S.lw (by omega) vh6 (pushB 1 S.hi (v, (s : Int))) (-1) (.inr rfl) (v, (s : Int)) w7 HM7.out.toLo rfl hB7).mono ?_
  rintro _ w8 ⟨⟨r8, rfl⟩, ⟨vw8, hb8⟩, hbel8, hk8⟩
  have HM8 := hid (HM7.out.fromLo hb8 hk8)
  have HB8 := hid (HB7.out.trans hbel8)
  clear hb8 hbel8 hk8
  have p1 : w8.cell? ⟨b, 1, none⟩ = some (.int .i64 (s : Int)) := by rw [Rec.cell HM8.out.rec_]; rfl
  have fp1 : w8.frozen? ⟨b, 1, none⟩ = false := Rec.frozen HM8.out.rec_ 1
  have lt8 := Rec.lt HM8.out.rec_
  have e1 : IntKind.i64.wrap ((s : Int) + 1) = (s : Int) + 1 := by rw [IntKind.wrap_i64]; omega
  obtain ⟨w9, ew9⟩ : ∃ w9, w9 = w8.setCell ⟨b, 1, none⟩ (.int .i64 ((s : Int) + 1)) := ⟨_, rfl⟩
  have HM9 := hid (show WM B w9 b m ((s : Int) + 1) _ vh6 vw8 _ _ _ by rw [ew9]; exact HM8.out.count _)
  have HB9 := hid (show Below B w w9 by rw [ew9]; exact HB8.out.setCell (p := ⟨b, 1, none⟩) hbig _)
  have EW9 := hid ew9
  clear ew9
  go_wp2_with fail
  rw [← EW9.out]
  obtain ⟨x0, t, ext⟩ : ∃ x0 t, S.l ++ [v] = x0 :: t := by
    cases h : S.l ++ [v] with
    | nil => simp at h
    | cons a t => exact ⟨a, t, rfl⟩
  have hm9 := HM9.out
  rw [ext] at hm9
  have HX := hid hm9
  have EXT := hid ext
  have htl : t.length = n := by
    have := congrArg List.length ext
    rw [List.length_append, EN.out] at this
    simp at this
    omega
  have HTL := hid htl
  have p0 : w9.cell? ⟨b, 0, none⟩ = some (.int .i64 (m : Int)) := by rw [Rec.cell HM9.out.rec_]; rfl
  have p2 : w9.cell? ⟨b, 2, none⟩ = some (.slice (some ⟨g3, o3, none⟩) (n + 1) c3) := by rw [Rec.cell HM9.out.rec_]; rfl
  clear hm9 ext htl
  by_cases hle : n + 1 ≤ m
  · have HPW := hid (show pushW m S v = (⟨s + 1, S.l ++ [v], pushB 1 S.hi (v, (s : Int)), pushB (-1) S.lw (v, (s : Int))⟩, ⟨#[]⟩, false) by unfold pushW; rw [EN.out, ES.out, if_pos hle])
    refine wp_region_past (by kernel_rfl) (by kernel_rfl) ?_
    repeat (go_big_quiet_step ((fail)))
    refine wpQuiet_nil ?_
    rintro _ ⟨_, rfl⟩
    rename_i xq
    go_wp2_with fail
    go_ret2
    refine ⟨by rw [HPW.out]; rfl, ?_, HB9.out.trans ((w9.below_past xq).mono (Nat.le_trans hB HB9.out.size))⟩
    rw [HPW.out]
    refine ⟨.slice (some ⟨g3, o3, none⟩) (n + 1) c3, vh6, vw8, ?_⟩
    show WM B (w9.past xq) b m ((s + 1 : Nat) : Int) _ vh6 vw8 (S.l ++ [v]) _ _
    rw [show ((s + 1 : Nat) : Int) = (s : Int) + 1 by omega]
    exact HM9.out.far (w9.below_past xq)
  · have HPW := hid (show pushW m S v = (⟨s + 1, t, dropB (pushB 1 S.hi (v, (s : Int))) ((s : Int) + 1 - m), dropB (pushB (-1) S.lw (v, (s : Int))) ((s : Int) + 1 - m)⟩, x0, true) by unfold pushW; rw [EN.out, ES.out, if_neg hle, EXT.out]; rfl)
    refine wp_region_past (by kernel_rfl) (by kernel_rfl) ?_
    repeat (go_big_quiet_step ((fail)))
    refine wpQuiet_nil ?_
    rintro _ ⟨_, rfl⟩
    rename_i xq
    obtain ⟨wa, ewa⟩ : ∃ wa, wa = w9.past xq := ⟨_, rfl⟩
    have hma : WM B wa b m ((s : Int) + 1) (.slice (some ⟨g3, o3, none⟩) (n + 1) c3) vh6 vw8 (x0 :: t) (pushB 1 S.hi (v, (s : Int))) (pushB (-1) S.lw (v, (s : Int))) := by rw [ewa]; exact HX.out.far (w9.below_past xq)
    have HBA := hid (show Below B w wa by rw [ewa]; exact HB9.out.trans ((w9.below_past xq).mono (Nat.le_trans hB HB9.out.size)))
    rw [← ewa]
    clear ewa p0 p2
    have p2 : wa.cell? ⟨b, 2, none⟩ = some (.slice (some ⟨g3, o3, none⟩) (n + 1) c3) := by rw [Rec.cell hma.rec_]; rfl
    have fp2 : wa.frozen? ⟨b, 2, none⟩ = false := Rec.frozen hma.rec_ 2
    have lta := Rec.lt hma.rec_
    have hrl := hma.rl
    rw [List.length_cons, HTL.out] at hrl
    have px : wa.cell? ⟨g3, o3, none⟩ = some (.string x0) := by
      have := hrl.at (j := 0) (by omega)
      rw [Nat.add_zero] at this
      rw [this]; rfl
    have hcap : 1 ≤ c3 := by
      rcases hrl.2 with ⟨h, _⟩ | ⟨_, _, _, _, hv, _, _, hnc, _⟩
      · cases h
      · cases hv; omega
    have HMA := hid hma
    clear hma hrl
    obtain ⟨AA, eAA⟩ : ∃ AA, AA = if c3 = 1 then some (⟨g3, o3, none⟩ : Addr) else some ⟨g3, o3 + 1, none⟩ := ⟨_, rfl⟩
    have HSH := hid (HMA.out.shift eAA)
    obtain ⟨wb, ewb⟩ : ∃ wb, wb = wa.setCell ⟨b, 2, none⟩ (.slice AA n (c3 - 1)) := ⟨_, rfl⟩
    have HMB := hid (show WM B wb b m ((s : Int) + 1) (.slice AA n (c3 - 1)) vh6 vw8 t (pushB 1 S.hi (v, (s : Int))) (pushB (-1) S.lw (v, (s : Int))) by rw [ewb]; exact HSH.out)
    have HBB := hid (show Below B w wb by rw [ewb]; exact HBA.out.setCell (p := ⟨b, 2, none⟩) hbig _)
    have EWB := hid ewb
    have EAA := hid eAA
    clear ewb eAA
    by_cases hc1 : c3 = 1
    · subst hc1
      go_wp2_with fail
      have ewb := EWB.out
      rw [EAA.out, if_pos trivial] at ewb
      rw [show wa.setCell ⟨b, 2, none⟩ (.slice (some ⟨g3, o3, none⟩) n 0) = wb from ewb.symm]
      clear ewb
      clear p2 fp2 lta px hcap
      have p1 : wb.cell? ⟨b, 1, none⟩ = some (.int .i64 ((s : Int) + 1)) := by rw [Rec.cell HMB.out.rec_]; rfl
      have p0 : wb.cell? ⟨b, 0, none⟩ = some (.int .i64 (m : Int)) := by rw [Rec.cell HMB.out.rec_]; rfl
      have e5 : IntKind.i64.wrap ((s : Int) + 1 - m) = (s : Int) + 1 - m := by rw [IntKind.wrap_i64]; omega
      go_still_tail 12, (by kernel_rfl)
      change wpList _ _ _ _ _ wb.drew
      obtain ⟨wc, ewc⟩ : ∃ wc, wc = wb.drew := ⟨_, rfl⟩
      have HMC := hid (show WM B wc b m ((s : Int) + 1) (.slice AA n (1 - 1)) vh6 vw8 t (pushB 1 S.hi (v, (s : Int))) (pushB (-1) S.lw (v, (s : Int))) by rw [ewc]; exact HMB.out.far (Below.refl _ _).drew)
      have HBC := hid (show Below B w wc by rw [ewc]; exact HBB.out.drew)
      have hBC := Nat.le_trans hB HBC.out.size
      rw [← ewc]
      clear ewc p1 p0
      go_wp2_with fail
      refine (drop_any B b 3 (.inl rfl) _ rfl vh6 (pushB 1 S.hi (v, (s : Int))) vw8 (pushB (-1) S.lw (v, (s : Int))) ((s : Int) + 1 - m) wc HMC.out.toHi hBC).mono ?_
      rintro _ wd ⟨⟨rd, rfl⟩, ⟨vhd, hbd⟩, hbeld, hkd⟩
      have HMD := hid (HMC.out.fromHi hbd hkd)
      have HBD := hid (HBC.out.trans hbeld)
      clear hbd hbeld hkd
      have P1 := hid (show wd.cell? ⟨b, 1, none⟩ = some (.int .i64 ((s : Int) + 1)) by rw [Rec.cell HMD.out.rec_]; rfl)
      have P0 := hid (show wd.cell? ⟨b, 0, none⟩ = some (.int .i64 (m : Int)) by rw [Rec.cell HMD.out.rec_]; rfl)
      go_wp2_with fail
      have p1 := P1.out
      have p0 := P0.out
      go_still_tail 12, (by kernel_rfl)
      change wpList _ _ _ _ _ wd.drew
      obtain ⟨we, ewe⟩ : ∃ we, we = wd.drew := ⟨_, rfl⟩
      have HME := hid (show WM B we b m ((s : Int) + 1) (.slice AA n (1 - 1)) vhd vw8 t (dropB (pushB 1 S.hi (v, (s : Int))) ((s : Int) + 1 - m)) (pushB (-1) S.lw (v, (s : Int))) by rw [ewe]; exact HMD.out.far (Below.refl _ _).drew)
      have HBE := hid (show Below B w we by rw [ewe]; exact HBD.out.drew)
      have hBE := Nat.le_trans hB HBE.out.size
      rw [← ewe]
      clear ewe p1 p0
      go_wp2_with fail
      refine (drop_any B b 5 (.inr rfl) _ rfl vw8 (pushB (-1) S.lw (v, (s : Int))) vhd (dropB (pushB 1 S.hi (v, (s : Int))) ((s : Int) + 1 - m)) ((s : Int) + 1 - m) we HME.out.toLo hBE).mono ?_
      rintro _ wf ⟨⟨rf, rfl⟩, ⟨vwf, hbf⟩, hbelf, hkf⟩
      have HMF := hid (HME.out.fromLo hbf hkf)
      have HBF := hid (HBE.out.trans hbelf)
      clear hbf hbelf hkf
      go_wp2_with fail
      go_ret2
      refine ⟨by rw [HPW.out]; rfl, ?_, HBF.out⟩
      rw [HPW.out]
      refine ⟨.slice AA n (1 - 1), vhd, vwf, ?_⟩
      show WM B wf b m ((s + 1 : Nat) : Int) _ vhd vwf t _ _
      rw [show ((s + 1 : Nat) : Int) = (s : Int) + 1 by omega]
      exact HMF.out
    · go_wp2_with fail
      have ewb := EWB.out
      rw [EAA.out, if_neg hc1] at ewb
      rw [← ewb]
      clear ewb
      clear p2 fp2 lta px hcap
      have p1 : wb.cell? ⟨b, 1, none⟩ = some (.int .i64 ((s : Int) + 1)) := by rw [Rec.cell HMB.out.rec_]; rfl
      have p0 : wb.cell? ⟨b, 0, none⟩ = some (.int .i64 (m : Int)) := by rw [Rec.cell HMB.out.rec_]; rfl
      have e5 : IntKind.i64.wrap ((s : Int) + 1 - m) = (s : Int) + 1 - m := by rw [IntKind.wrap_i64]; omega
      go_still_tail 12, (by kernel_rfl)
      change wpList _ _ _ _ _ wb.drew
      obtain ⟨wc, ewc⟩ : ∃ wc, wc = wb.drew := ⟨_, rfl⟩
      have HMC := hid (show WM B wc b m ((s : Int) + 1) (.slice AA n (c3 - 1)) vh6 vw8 t (pushB 1 S.hi (v, (s : Int))) (pushB (-1) S.lw (v, (s : Int))) by rw [ewc]; exact HMB.out.far (Below.refl _ _).drew)
      have HBC := hid (show Below B w wc by rw [ewc]; exact HBB.out.drew)
      have hBC := Nat.le_trans hB HBC.out.size
      rw [← ewc]
      clear ewc p1 p0
      go_wp2_with fail
      refine (drop_any B b 3 (.inl rfl) _ rfl vh6 (pushB 1 S.hi (v, (s : Int))) vw8 (pushB (-1) S.lw (v, (s : Int))) ((s : Int) + 1 - m) wc HMC.out.toHi hBC).mono ?_
      rintro _ wd ⟨⟨rd, rfl⟩, ⟨vhd, hbd⟩, hbeld, hkd⟩
      have HMD := hid (HMC.out.fromHi hbd hkd)
      have HBD := hid (HBC.out.trans hbeld)
      clear hbd hbeld hkd
      have P1 := hid (show wd.cell? ⟨b, 1, none⟩ = some (.int .i64 ((s : Int) + 1)) by rw [Rec.cell HMD.out.rec_]; rfl)
      have P0 := hid (show wd.cell? ⟨b, 0, none⟩ = some (.int .i64 (m : Int)) by rw [Rec.cell HMD.out.rec_]; rfl)
      go_wp2_with fail
      have p1 := P1.out
      have p0 := P0.out
      go_still_tail 12, (by kernel_rfl)
      change wpList _ _ _ _ _ wd.drew
      obtain ⟨we, ewe⟩ : ∃ we, we = wd.drew := ⟨_, rfl⟩
      have HME := hid (show WM B we b m ((s : Int) + 1) (.slice AA n (c3 - 1)) vhd vw8 t (dropB (pushB 1 S.hi (v, (s : Int))) ((s : Int) + 1 - m)) (pushB (-1) S.lw (v, (s : Int))) by rw [ewe]; exact HMD.out.far (Below.refl _ _).drew)
      have HBE := hid (show Below B w we by rw [ewe]; exact HBD.out.drew)
      have hBE := Nat.le_trans hB HBE.out.size
      rw [← ewe]
      clear ewe p1 p0
      go_wp2_with fail
      refine (drop_any B b 5 (.inr rfl) _ rfl vw8 (pushB (-1) S.lw (v, (s : Int))) vhd (dropB (pushB 1 S.hi (v, (s : Int))) ((s : Int) + 1 - m)) ((s : Int) + 1 - m) we HME.out.toLo hBE).mono ?_
      rintro _ wf ⟨⟨rf, rfl⟩, ⟨vwf, hbf⟩, hbelf, hkf⟩
      have HMF := hid (HME.out.fromLo hbf hkf)
      have HBF := hid (HBE.out.trans hbelf)
      clear hbf hbelf hkf
      go_wp2_with fail
      go_ret2
      refine ⟨by rw [HPW.out]; rfl, ?_, HBF.out⟩
      rw [HPW.out]
      refine ⟨.slice AA n (c3 - 1), vhd, vwf, ?_⟩
      show WM B wf b m ((s + 1 : Nat) : Int) _ vhd vwf t _ _
      rw [show ((s + 1 : Nat) : Int) = (s : Int) + 1 by omega]
      exact HMF.out
end Go.Proofs.Ytplkekmegonenaa.Str
