/- Fields and declarations that are one. -/
import Derived.Test.YtcelpmojhjnggaaH06
import Derived.Test.YtcelpmojhjnggaaH09
import Derived.Test.YtcelpmojhjnggaaH08
namespace Go.Proofs.Ytcelpmojhjnggaa
open Go Go.RowKit Go.Sort Go.Deep KindsP
set_option maxHeartbeats 4000000
set_option maxRecDepth 100000

theorem SameFields_same (d d' : Nat) (w : World) (v v' : Value) (fs : List Fld) (h : RowG 6 (LiesF w d) w v fs) (h' : RowG 6 (LiesF w d') w v' fs) : Calls Try.prog 30 #[v, v'] w fun e w' => e = .returned (.bool true) ∧ Below w.heap.size w w' := by
  obtain ⟨a, c, rfl, hcc, hcm, hf⟩ := h.form
  obtain ⟨a', c', rfl, hcc', hcm', hf'⟩ := h'.form
  have hll := Nat.le_trans hcc hcm
  unfold maxLen at hll
  have HA := Lib.hid h
  have HA' := Lib.hid h'
  clear h h'
  go_enter Try.func30, Try.ntmps30
  go_wp2_with fail
  go_loopw [5] (fun iv wr => ∃ (k : Nat), k ≤ fs.length ∧ iv = .int .i64 k ∧ Below w.heap.size w wr) (fun iv _ => fs.length - (intOf iv).toNat)
  case atStart => exact ⟨0, by omega, rfl, Below.refl _ _⟩
  case round =>
    obtain ⟨k, hk, rfl, hb⟩ := hrel
    have HB := Lib.hid hb
    clear hb
    by_cases hlt : k < fs.length
    · obtain ⟨b, o, rfl⟩ := hf (by omega)
      obtain ⟨b', o', rfl⟩ := hf' (by omega)
      obtain ⟨cs, ⟨z0, z1, z2, z3, z4, rfl, hty⟩, hcs⟩ := HA.out.get k fs[k] (by simp)
      obtain ⟨cs', ⟨z5, z6, z7, z8, z9, rfl, hty'⟩, hcs'⟩ := HA'.out.get k fs[k] (by simp)
      obtain ⟨x, hx⟩ : ∃ x, fs[k] = x := ⟨_, rfl⟩
      rw [hx] at hty hty' hcs hcs'
      obtain ⟨nm, t⟩ := x
      dsimp only at hty hty' hcs hcs'
      obtain ⟨x0, x1, x2, x3, x4, x5, x6, x7, x8, rfl, rfl, rfl, rfl, rfl⟩ := lies_form hty
      obtain ⟨y0, y1, y2, y3, y4, y5, y6, y7, y8, rfl, rfl, rfl, rfl, rfl⟩ := lies_form hty'
      have f0 := cell_on HB.out (hcs 0 _ rfl)
      have g0 := cell_on HB.out (hcs' 0 _ rfl)
      have f1 := cell_on HB.out (hcs 1 _ rfl)
      have g1 := cell_on HB.out (hcs' 1 _ rfl)
      have f2 := cell_on HB.out (hcs 2 _ rfl)
      have g2 := cell_on HB.out (hcs' 2 _ rfl)
      have f3 := cell_on HB.out (hcs 3 _ rfl)
      have g3 := cell_on HB.out (hcs' 3 _ rfl)
      have f4 := cell_on HB.out (hcs 4 _ rfl)
      have g4 := cell_on HB.out (hcs' 4 _ rfl)
      have f5 := cell_on HB.out (hcs 5 _ rfl)
      have g5 := cell_on HB.out (hcs' 5 _ rfl)
      rw [Nat.add_zero] at f0 g0
      have HCT := Lib.hid (Same_any d d' wr.drew _ _ t t (Lies.below HB.out.drew _ _ _ hty) (Lies.below HB.out.drew _ _ _ hty'))
      rw [sameT_refl] at HCT
      have HSW := Lib.hid (fun (W' : World) (h : Below wr.heap.size wr W') => (show W'.cell? ⟨b, o + k * 6, none⟩ = some (.string nm) ∧ W'.cell? ⟨b, o + k * 6 + 1, none⟩ = some (.int .i64 x0) ∧ W'.cell? ⟨b, o + k * 6 + 2, none⟩ = some (.string x1) ∧ W'.cell? ⟨b, o + k * 6 + 3, none⟩ = some (.string x2) ∧ W'.cell? ⟨b, o + k * 6 + 4, none⟩ = some (.slice x3 x4 x5) ∧ W'.cell? ⟨b, o + k * 6 + 5, none⟩ = some (.slice x6 x7 x8) ∧ W'.cell? ⟨b', o' + k * 6, none⟩ = some (.string nm) ∧ W'.cell? ⟨b', o' + k * 6 + 1, none⟩ = some (.int .i64 y0) ∧ W'.cell? ⟨b', o' + k * 6 + 2, none⟩ = some (.string y1) ∧ W'.cell? ⟨b', o' + k * 6 + 3, none⟩ = some (.string y2) ∧ W'.cell? ⟨b', o' + k * 6 + 4, none⟩ = some (.slice y3 y4 y5) ∧ W'.cell? ⟨b', o' + k * 6 + 5, none⟩ = some (.slice y6 y7 y8) from ⟨cell_on h f0, cell_on h f1, cell_on h f2, cell_on h f3, cell_on h f4, cell_on h f5, cell_on h g0, cell_on h g1, cell_on h g2, cell_on h g3, cell_on h g4, cell_on h g5⟩))
      have k0 : (0 : Int) ≤ (k : Int) := by omega
      have k1 : (k : Int) < (fs.length : Int) := by omega
      clear hcs hcs' hty hty' hx f0 g0 f1 g1 f2 g2 f3 g3 f4 g4 f5 g5
      go_upto_region 6 with fail
      go_region_held3 (fun w' => w'.cell? ⟨b, o + k * 6, none⟩ = some (.string nm) ∧ w'.cell? ⟨b, o + k * 6 + 1, none⟩ = some (.int .i64 x0) ∧ w'.cell? ⟨b, o + k * 6 + 2, none⟩ = some (.string x1) ∧ w'.cell? ⟨b, o + k * 6 + 3, none⟩ = some (.string x2) ∧ w'.cell? ⟨b, o + k * 6 + 4, none⟩ = some (.slice x3 x4 x5) ∧ w'.cell? ⟨b, o + k * 6 + 5, none⟩ = some (.slice x6 x7 x8) ∧ w'.cell? ⟨b', o' + k * 6, none⟩ = some (.string nm) ∧ w'.cell? ⟨b', o' + k * 6 + 1, none⟩ = some (.int .i64 y0) ∧ w'.cell? ⟨b', o' + k * 6 + 2, none⟩ = some (.string y1) ∧ w'.cell? ⟨b', o' + k * 6 + 3, none⟩ = some (.string y2) ∧ w'.cell? ⟨b', o' + k * 6 + 4, none⟩ = some (.slice y3 y4 y5) ∧ w'.cell? ⟨b', o' + k * 6 + 5, none⟩ = some (.slice y6 y7 y8)) (first | exact HSW.out _ (Below.refl _ _).drew | exact HSW.out _ HB7.out) (first | (go_at_call 19; refine HCT.out.mono ?_; rintro e w7 ⟨rfl, hb7⟩; have HB7 : Hid (Below wr.heap.size wr w7) := Lib.hid (below_drew hb7); clear hb7))
      go_wp2_with fail
      exact ⟨⟨k + 1, by omega, by go_num, HB.out.trans (HB7.out.mono HB.out.size)⟩, by simp [intOf]; omega⟩
    · go_wp2_with fail
      go_ret
      exact ⟨rfl, HB.out⟩
theorem SameDecl_x (d d' : Nat) (w : World) (kd kd' : Int) (nm nm' of of' : ByteArray) (vl vl' : Int) (x0 y0 : Int) (x1 x2 y1 y2 : ByteArray) (x3 x6 y3 y6 xf yf : Option Addr) (x4 x5 x7 x8 y4 y5 y7 y8 nf cf nf' cf' : Nat) (x : Dcl) (h : LiesD w d [.int .i64 kd, .string nm, .string of, .int .i64 vl, .int .i64 x0, .string x1, .string x2, .slice x3 x4 x5, .slice x6 x7 x8, .slice xf nf cf] x) (h' : LiesD w d' [.int .i64 kd', .string nm', .string of', .int .i64 vl', .int .i64 y0, .string y1, .string y2, .slice y3 y4 y5, .slice y6 y7 y8, .slice yf nf' cf'] x) :
    Calls Try.prog 27 #[.agg #[.int .i64 kd, .string nm, .string of, .int .i64 vl, .int .i64 x0, .string x1, .string x2, .slice x3 x4 x5, .slice x6 x7 x8, .slice xf nf cf], .agg #[.int .i64 kd', .string nm', .string of', .int .i64 vl', .int .i64 y0, .string y1, .string y2, .slice y3 y4 y5, .slice y6 y7 y8, .slice yf nf' cf']] w fun e w' => e = .returned (.bool true) ∧ Below w.heap.size w w' := by
  obtain ⟨c0, c1, c2, c3, c4, vf, e, ht, hfs⟩ := h
  simp only [List.cons.injEq, Value.int.injEq, Value.string.injEq, true_and, and_true] at e
  obtain ⟨rfl, rfl, rfl, rfl, rfl, rfl, rfl, rfl, rfl, rfl⟩ := e
  obtain ⟨c0, c1, c2, c3, c4, vf, e, ht', hfs'⟩ := h'
  simp only [List.cons.injEq, Value.int.injEq, Value.string.injEq, true_and, and_true] at e
  obtain ⟨rfl, rfl, rfl, rfl, rfl, rfl, rfl, rfl, rfl, rfl⟩ := e
  obtain ⟨kd, nm, of, vl, t, fs⟩ := x
  dsimp only at *
  have hb2 := alloc2_below w (.cells #[.int .i64 kd, .string nm, .string of, .int .i64 vl, .int .i64 x0, .string x1, .string x2, .slice x3 x4 x5, .slice x6 x7 x8, .slice xf nf cf] 41) (.cells #[.int .i64 kd, .string nm, .string of, .int .i64 vl, .int .i64 y0, .string y1, .string y2, .slice y3 y4 y5, .slice y6 y7 y8, .slice yf nf' cf'] 41)
  have HT := Lib.hid (Same_any d d' _ _ _ t t (Lies.below hb2 _ _ _ ht) (Lies.below hb2 _ _ _ ht'))
  rw [sameT_refl] at HT
  have HF := Lib.hid (fun W (hb : Below w.heap.size w W) => SameFields_same d d' W _ _ fs (hfs.mono (LiesF.below hb d) hb) (hfs'.mono (LiesF.below hb d') hb))
  clear ht ht' hfs hfs' hb2
  go_enter Try.func27, Try.ntmps27
  go_wp2_with (first | (go_at_call 19; refine HT.out.mono ?_; rintro e w2 ⟨rfl, hb2⟩; obtain ⟨hk, hk1, hb⟩ := alloc_known2 hb2; have c9 : w2.cell? ⟨w.heap.size, 9, none⟩ = some (.slice xf nf cf) := (cell_of_row _ _ 9 _ _ _ hk).trans rfl; have d9 : w2.cell? ⟨w.heap.size + 1, 9, none⟩ = some (.slice yf nf' cf') := (cell_of_row _ _ 9 _ _ _ hk1).trans rfl; have HB := Lib.hid hb; clear hb2 hk hk1 hb) | (go_at_call 30; refine (HF.out _ HB.out).mono ?_; rintro e w3 ⟨rfl, hb3⟩; have HB3 := Lib.hid (HB.out.trans (hb3.mono HB.out.size)); clear hb3))
  go_ret
  exact ⟨rfl, HB3.out⟩
def zTy0 : Ty := .mk 0 ⟨#[]⟩ ⟨#[]⟩ [] []
def zD : Dcl := ⟨0, ⟨#[]⟩, ⟨#[]⟩, 0, zTy0, []⟩
theorem zD_lies (w : World) (d : Nat) : LiesD w (d + 1) [.int .i64 0, .string ⟨#[]⟩, .string ⟨#[]⟩, .int .i64 0, .int .i64 0, .string ⟨#[]⟩, .string ⟨#[]⟩, .slice none 0 0, .slice none 0 0, .slice none 0 0] zD :=
  ⟨_, _, _, _, _, _, rfl, ⟨_, _, rfl, ⟨none, 0, rfl, by simp, by unfold maxLen; omega, .inl rfl⟩, ⟨none, 0, rfl, by simp, by unfold maxLen; omega, .inl rfl⟩⟩, RowG.nil _ _ _⟩
/-- what Find hands back, cell by cell -/
theorem find_vals {w0 w w' : World} {d : Nat} {r : Option Dcl} {e : Ending} (h : FindPost w0 w d r e w') : Below w.heap.size w w' ∧ ∃ (kd : Int) (nm of : ByteArray) (vl x0 : Int) (x1 x2 : ByteArray) (x3 : Option Addr) (x4 x5 : Nat) (x6 : Option Addr) (x7 x8 : Nat) (xf : Option Addr) (nf cf : Nat),
    e = .returned (.tuple #[.agg #[.int .i64 kd, .string nm, .string of, .int .i64 vl, .int .i64 x0, .string x1, .string x2, .slice x3 x4 x5, .slice x6 x7 x8, .slice xf nf cf], .bool r.isSome]) ∧ LiesD w0 (d + 1) [.int .i64 kd, .string nm, .string of, .int .i64 vl, .int .i64 x0, .string x1, .string x2, .slice x3 x4 x5, .slice x6 x7 x8, .slice xf nf cf] (r.getD zD) := by
  obtain ⟨hb, h⟩ := h
  refine ⟨hb, ?_⟩
  cases r with
  | none => exact ⟨0, ⟨#[]⟩, ⟨#[]⟩, 0, 0, ⟨#[]⟩, ⟨#[]⟩, none, 0, 0, none, 0, 0, none, 0, 0, h, zD_lies w0 d⟩
  | some x =>
    obtain ⟨cs, rfl, hl⟩ := h
    have hl' := hl
    obtain ⟨c0, c1, c2, c3, c4, vf, rfl, ht, hfs⟩ := hl'
    obtain ⟨x0, x1, x2, x3, x4, x5, x6, x7, x8, rfl, rfl, rfl, rfl, rfl⟩ := lies_form ht
    obtain ⟨xf, cf, rfl, _⟩ := hfs.form
    exact ⟨_, _, _, _, x0, x1, x2, x3, x4, x5, x6, x7, x8, xf, _, cf, rfl, hl.le (Nat.le_succ _)⟩
end Go.Proofs.Ytcelpmojhjnggaa

/- Types in the place of variables: Put. -/
namespace Go.Proofs.Ytcelpmojhjnggaa
open Go Go.RowKit Go.Sort Go.Deep KindsP
set_option maxHeartbeats 2000000
set_option maxRecDepth 100000

theorem each44_put (q4 q5 : Nat) (d D : Nat) (g : Ty → Ty) (w : World) (v : Value) (l : List Ty) (h : RowOf (Lies w d) w v l) (hll : l.length ≤ 1000000000)
    (ih : ∀ (i : Nat) (hi : i < l.length) (W : World) (v : Value), Below w.heap.size w W → Lies W d v l[i] → Calls Try.prog 43 #[v, .pointer (some ⟨q4, 0, none⟩), .pointer (some ⟨q5, 0, none⟩)] W fun e w' => ∃ u, e = .returned u ∧ LiesIn (fun b => W.heap.size ≤ b) w' D u (g l[i]) ∧ Below W.heap.size W w') :
    Calls Try.prog 44 #[v, .func (.func 43) #[] #[.pointer (some ⟨q4, 0, none⟩), .pointer (some ⟨q5, 0, none⟩)]] w fun e w' => ∃ u, e = .returned u ∧ RowIn (fun b => w.heap.size ≤ b) (LiesIn (fun b => w.heap.size ≤ b) w' D) w' u (l.map g) ∧ Below w.heap.size w w' := by
  obtain ⟨a, c, rfl, hc, hcm, hf⟩ := h.form
  have HA := Lib.hid h
  obtain ⟨i9, hi9, hz90, hz91, hz92⟩ := info_parts Try.info31'
  clear h
  go_enter Try.func44, Try.ntmps44
  go_wp2_with fail
  go_loopw [5, 10] (fun ov iv wr => ∃ (k : Nat) (vs : List Value), k ≤ l.length ∧ iv = .int .i64 k ∧ wr.ownsRow w.heap.size 31 5 ov k (vs.flatMap cells5) ∧ Vals (LiesIn (fun b => w.heap.size ≤ b ∧ b < wr.heap.size ∧ ov.ownBlock ≠ some b) wr D) vs ((l.take k).map g) ∧ Below w.heap.size w wr) (fun _ iv _ => l.length - (intOf iv).toNat)
  case atStart => exact ⟨0, [], by omega, rfl, World.ownsRow_nil _ _ _ _, ⟨by simp, by simp⟩, Below.refl _ _⟩
  case round =>
    obtain ⟨k, vs, hk, rfl, hown, hvs, hb⟩ := hrel
    obtain ⟨ao, cap, rfl⟩ := own_shape hown
    have HB := Lib.hid hb
    have HO := Lib.hid hown
    have HV := Lib.hid hvs
    have hsz := hb.size
    clear hb hown hvs
    by_cases hlt : k < l.length
    · obtain ⟨b, o, rfl⟩ := hf (by omega)
      obtain ⟨x0, x1, x2, x3, x4, hl, hf⟩ := HA.out.get k l[k] (by simp)
      obtain ⟨f0, f1, f2, f3, f4⟩ := hf.below HB.out
      have HT := Lib.hid (show (l.take (k + 1)).map g = (l.take k).map g ++ [g l[k]] by rw [List.take_add_one, List.getElem?_eq_getElem hlt, List.map_append]; rfl)
      have HL := Lib.hid (fun w' (hb : Below wr.heap.size wr w') => Lies.below (HB.out.trans (hb.mono hsz)) _ _ _ hl)
      obtain ⟨q0, q1, q2, q3, q4, q5, q6, q7, q8, rfl, rfl, rfl, rfl, rfl⟩ := lies_form hl
      clear hl hf
      go_wp2_with (first | (go_at_call 43; refine (ih k hlt _ _ (HB.out.alloc hsz _) (HL.out _ ((Below.refl _ _).alloc (Nat.le_refl _) _))).mono ?_; rintro e w2 ⟨u, rfl, hlu, hb2⟩; obtain ⟨-, hb3⟩ := alloc_known hb2; obtain ⟨c0, c1, c2, c3, c4, rfl⟩ := lies_five (LiesIn.lies _ _ _ hlu); obtain ⟨t0, t1, t2, t3, t4, t5, t6, t7, t8, rfl, rfl, rfl, rfl, rfl⟩ := lies_form (LiesIn.lies _ _ _ hlu); have HU := Lib.hid hlu; have HB2 := Lib.hid hb3; have hsz2 := hb3.size; clear hb2 hb3 hlu) | (at_builtin; refine wpList_append_lies _ rfl (.tmp 14) (.tmp 18) 23 rfl w.heap.size 31 i9 _ 5 88 Try.underlying23 hi9 hz90 hz91 hz92 rfl (by decide) _ k _ rfl ((own_below HO.out HB2.out).alloc _) ⟨w2.heap.size, 0, none⟩ 1 1 [.int .i64 t0, .string t1, .string t2, .slice t3 t4 t5, .slice t6 t7 t8] rfl rfl (World.news_of_block (cs := #[.int .i64 t0, .string t1, .string t2, .slice t3 t4 t5, .slice t6 t7 t8]) (t := 31) (fr := (0, 0)) (heap_alloc_new w2 _)) (by simp [Value.oneCell']) (by omega) (by unfold maxLen; omega) (by omega) (by simp; omega) (w2.heap.size + 1) (by simp) ?_; intro gg cp w3 hown3 hgrow hat hlt3; have HG : Hid ((w2.alloc (.cells #[.int .i64 t0, .string t1, .string t2, .slice t3 t4 t5, .slice t6 t7 t8] 31)).grownBy w3 (Value.slice ao k cap).ownBlock) := hgrow; have HW3 := Lib.hid hown3; have HAT : Hid ((Value.slice ao k cap).ownBlock = some gg ∨ gg = w2.heap.size + 1) := hat; clear hown3 hgrow hat))
      have hbw : Below w.heap.size w w3 := ((HB.out.trans (HB2.out.mono hsz)).alloc (by omega) _).grown HG.out (by simp; omega) (fun g hg => (HO.out.lt g hg).1)
      have hgo := fun g hg => HO.out.lt g hg
      have hat := HAT.out
      have hold : ∀ b, (w.heap.size ≤ b ∧ b < wr.heap.size ∧ (Value.slice ao k cap).ownBlock ≠ some b) → b < wr.heap.size → (w.heap.size ≤ b ∧ b < w3.heap.size ∧ (Value.slice (some ⟨gg, 0, none⟩) (k + 1) cp).ownBlock ≠ some b) ∧ w3.heap[b]? = wr.heap[b]? := by
        intro b hb hlt
        obtain ⟨h1, h2, h3⟩ := hb
        have e1 : w2.heap[b]? = wr.heap[b]? := HB2.out.block b hlt
        have e2 := heap_alloc_old w2 (.cells #[.int .i64 t0, .string t1, .string t2, .slice t3 t4 t5, .slice t6 t7 t8] 31) (r := b) (by omega)
        have e3 := HG.out.block b (by simp; omega) (Ne.symm h3)
        have hs3 := HG.out.size
        simp at hs3
        refine ⟨⟨h1, by omega, ?_⟩, e3.trans (e2.trans e1)⟩
        rcases hat with h | h
        · intro e; apply h3; rw [h]; exact e
        · intro e; have : gg = b := by simpa [Value.ownBlock] using e
          omega
      have hnew : ∀ b, (wr.alloc (.cells #[.int .i64 q0, .string q1, .string q2, .slice q3 q4 q5, .slice q6 q7 q8] 31)).heap.size ≤ b → b < w2.heap.size → (w.heap.size ≤ b ∧ b < w3.heap.size ∧ (Value.slice (some ⟨gg, 0, none⟩) (k + 1) cp).ownBlock ≠ some b) ∧ w3.heap[b]? = w2.heap[b]? := by
        intro b hb hlt
        simp at hb
        have hne : ∀ g, (Value.slice ao k cap).ownBlock = some g → g ≠ b := fun g hg => by have := (hgo g hg).2; omega
        have e2 := heap_alloc_old w2 (.cells #[.int .i64 t0, .string t1, .string t2, .slice t3 t4 t5, .slice t6 t7 t8] 31) (r := b) hlt
        have e3 := HG.out.block b (by simp; omega) (fun e => hne b e.symm rfl)
        have hs3 := HG.out.size
        simp at hs3
        refine ⟨⟨by omega, by omega, ?_⟩, e3.trans e2⟩
        intro e
        have : gg = b := by simpa [Value.ownBlock] using e
        rcases hat with h | h
        · exact hne gg h this
        · omega
      refine ⟨⟨k + 1, vs ++ [.agg #[.int .i64 t0, .string t1, .string t2, .slice t3 t4 t5, .slice t6 t7 t8]], by omega, by go_num, ?_, ?_, hbw⟩, by simp [intOf]; omega⟩
      · rw [List.flatMap_append]
        exact HW3.out
      · rw [HT.out]
        exact (HV.out.mono (fun _ _ h => h.kept hold)).snoc (HU.out.kept hnew)
    · have hkl : k = l.length := by omega
      go_wp2_with fail
      go_ret
      refine ⟨_, rfl, ?_, HB.out⟩
      subst hkl
      have := HV.out
      rw [List.take_length] at this
      exact RowIn.of_own (ts := l.map g) (by rw [List.length_map]; exact HO.out) (this.mono (fun _ _ h => h.kept (fun b h1 _ => ⟨h1.1, rfl⟩))) (fun _ h => h)

/-- the type in the place of a variable -/
def found (ns : List ByteArray) (ts : List Ty) (n : ByteArray) : Option Ty := if 0 ≤ Lib.idxOfS ns n then ts[(Lib.idxOfS ns n).toNat]? else none
mutual
def putT (ns : List ByteArray) (ts : List Ty) : Ty → Ty
  | .mk k p n la lr => match (if (k == 9) = true then found ns ts n else none) with
    | some t => t
    | none => .mk k p n (putL ns ts la) (putL ns ts lr)
def putL (ns : List ByteArray) (ts : List Ty) : List Ty → List Ty
  | [] => []
  | x :: xs => putT ns ts x :: putL ns ts xs
end
theorem putL_map (ns : List ByteArray) (ts : List Ty) (l : List Ty) : putL ns ts l = l.map (putT ns ts) := by
  induction l with
  | nil => rw [putL]; rfl
  | cons x xs ih => rw [putL, ih]; rfl
theorem index_any (w : World) (v : Value) (zs : List ByteArray) (h : NamesIs w v zs) (x : ByteArray) : Calls Try.prog 42 #[v, .string x] w fun e w' => e = .returned (.int .i64 (Lib.idxOfS zs x)) ∧ w' = w := by
  obtain ⟨⟨a, c, rfl, h2, h3⟩, _⟩ := h
  rcases h3 with rfl | ⟨b, o, rfl, h6⟩
  · exact Try.slices_Index_string_empty a c x w
  · have := Try.slices_Index_string b o zs.length c zs x w (Nat.le_refl _) h2 h6
    rwa [List.take_length] at this
def PutAt (d : Nat) : Prop := ∀ (w : World) (dd : Nat) (v vn vt : Value) (t : Ty) (ns : List ByteArray) (ts : List Ty), Lies w d v t → NamesIs w vn ns → RowOf (Lies w dd) w vt ts → sizT t ≤ 1000000000 → sizL ts ≤ 1000000000 →
    Calls Try.prog 18 #[v, vn, vt] w fun e w' => ∃ u, e = .returned u ∧ LiesIn (fun b => w.heap.size ≤ b) w' (d + dd) u (putT ns ts t) ∧ Below w.heap.size w w'
theorem keep5 (w : World) (B : Nat) (v0 v1 v2 v3 v4 : Value) (b : Nat) (h : b ≠ B) : (((((w.setCell ⟨B, 0, none⟩ v0).setCell ⟨B, 1, none⟩ v1).setCell ⟨B, 2, none⟩ v2).setCell ⟨B, 3, none⟩ v3).setCell ⟨B, 4, none⟩ v4).heap[b]? = w.heap[b]? := by
  rw [Below.heap_setCell _ _ _ _ h, Below.heap_setCell _ _ _ _ h, Below.heap_setCell _ _ _ _ h, Below.heap_setCell _ _ _ _ h, Below.heap_setCell _ _ _ _ h]
/-- the closure -/
theorem clo_any (d : Nat) (ih : PutAt d) (W : World) (q4 q5 : Nat) (dd : Nat) (v vn vt : Value) (t : Ty) (ns : List ByteArray) (ts : List Ty) (hl : Lies W d v t) (hn : NamesIs W vn ns) (ht : RowOf (Lies W dd) W vt ts) (hs : sizT t ≤ 1000000000) (hss : sizL ts ≤ 1000000000)
    (h4 : W.heap[q4]? = some (.cells #[vn] 22 (0, 0))) (h5 : W.heap[q5]? = some (.cells #[vt] 23 (0, 0))) :
    Calls Try.prog 43 #[v, .pointer (some ⟨q4, 0, none⟩), .pointer (some ⟨q5, 0, none⟩)] W fun e w' => ∃ u, e = .returned u ∧ LiesIn (fun b => W.heap.size ≤ b) w' (d + dd) u (putT ns ts t) ∧ Below W.heap.size W w' := by
  obtain ⟨x0, x1, x2, x3, x4, rfl⟩ := lies_five hl
  obtain ⟨_, _, _, _, _, _, _, _, _, rfl, rfl, rfl, rfl, rfl⟩ := lies_form hl
  have c4 : W.cell? ⟨q4, 0, none⟩ = some vn := by simp [World.cell?, h4]
  have c5 : W.cell? ⟨q5, 0, none⟩ = some vt := by simp [World.cell?, h5]
  have l4 : q4 < W.heap.size := (Array.getElem?_eq_some_iff.1 h4).1
  have l5 : q5 < W.heap.size := (Array.getElem?_eq_some_iff.1 h5).1
  have HI := Lib.hid (fun W' (hb : Below W.heap.size W W') => ih W' dd _ vn vt t ns ts (Lies.below hb _ _ _ hl) (hn.keep (below_keep hb)) (ht.below hb) hs hss)
  clear ih hl hn ht h4 h5
  go_enter Try.func43, Try.ntmps43
  go_wp2_with (first | (go_at_call 18; refine (HI.out _ (alloc2_below _ _ _)).mono ?_; rintro e w2 ⟨u, rfl, hu, hb⟩; refine Hid.out ?_))
  refine Lib.hid ?_
  obtain ⟨hk, hk1, hbw⟩ := alloc_known2 hb
  obtain ⟨c0, c1, c2, c3, c4', rfl⟩ := lies_five (LiesIn.lies _ _ _ hu)
  obtain ⟨t0, t1, t2, t3, t4, t5, t6, t7, t8, rfl, rfl, rfl, rfl, rfl⟩ := lies_form (LiesIn.lies _ _ _ hu)
  have d0 : w2.cell? ⟨W.heap.size + 1, 0, none⟩ = some (.int .i64 0) := by simp [World.cell?, hk1]
  have d1 : w2.cell? ⟨W.heap.size + 1, 1, none⟩ = some (.string ⟨#[]⟩) := by simp [World.cell?, hk1]
  have d2 : w2.cell? ⟨W.heap.size + 1, 2, none⟩ = some (.string ⟨#[]⟩) := by simp [World.cell?, hk1]
  have d3 : w2.cell? ⟨W.heap.size + 1, 3, none⟩ = some (.slice none 0 0) := by simp [World.cell?, hk1]
  have d4 : w2.cell? ⟨W.heap.size + 1, 4, none⟩ = some (.slice none 0 0) := by simp [World.cell?, hk1]
  have f1 : ∀ i, w2.frozen? ⟨W.heap.size + 1, i, none⟩ = false := fun i => by simp [World.frozen?, hk1]
  have HU := Lib.hid hu
  have HBW := Lib.hid hbw
  have hs2 := hb.size
  clear hk hk1 hbw hu hb
  go_wp2_with fail
  refine bodyPost_ret (v := .agg #[.int .i64 t0, .string t1, .string t2, .slice t3 t4 t5, .slice t6 t7 t8]) (by simp [results, Try.results43, go_sem, d0, d1, d2, d3, d4]) rfl ⟨_, rfl, ?_, ?_⟩
  · refine HU.out.kept (fun b h1 h2 => ⟨?_, keep5 _ _ _ _ _ _ _ b ?_⟩)
    · simp at h1; omega
    · simp at h1; omega
  · exact ((((HBW.out.setCell (by simp) _).setCell (by simp) _).setCell (by simp) _).setCell (by simp) _).setCell (by simp) _

theorem alloc_known4 {w w2 : World} {cs ds es fs : Array Value} {t u x y : TypeId} {fr gr hr ir : Nat × Nat} (hb : Below ((((w.alloc (.cells cs t fr)).alloc (.cells ds u gr)).alloc (.cells es x hr)).alloc (.cells fs y ir)).heap.size ((((w.alloc (.cells cs t fr)).alloc (.cells ds u gr)).alloc (.cells es x hr)).alloc (.cells fs y ir)) w2) :
    w2.heap[w.heap.size]? = some (.cells cs t fr) ∧ w2.heap[w.heap.size + 1]? = some (.cells ds u gr) ∧ w2.heap[w.heap.size + 1 + 1]? = some (.cells es x hr) ∧ w2.heap[w.heap.size + 1 + 1 + 1]? = some (.cells fs y ir) ∧ Below w.heap.size w w2 := by
  obtain ⟨h3, h2, hb2⟩ := alloc_known2 hb
  obtain ⟨h1, h0, hb1⟩ := alloc_known2 hb2
  have e2 : ((w.alloc (.cells cs t fr)).alloc (.cells ds u gr)).heap.size = w.heap.size + 1 + 1 := by simp
  rw [e2] at h3 h2
  exact ⟨h1, h0, h3, h2, hb1⟩
theorem found_small (ns : List ByteArray) (ts : List Ty) (n : ByteArray) (t : Ty) (h : found ns ts n = some t) : 0 ≤ Lib.idxOfS ns n ∧ ∃ i : Nat, Lib.idxOfS ns n = i ∧ ∃ hi : i < ts.length, ts[i] = t := by
  unfold found at h
  split at h
  · next h0 =>
    obtain ⟨i, hi⟩ := Int.eq_ofNat_of_zero_le h0
    rw [hi] at h
    simp at h
    obtain ⟨h1, h2⟩ := List.getElem?_eq_some_iff.1 h
    exact ⟨h0, i, hi, h1, h2⟩
  · cases h
theorem found_none (ns : List ByteArray) (ts : List Ty) (n : ByteArray) (h : found ns ts n = none) : Lib.idxOfS ns n < 0 ∨ (0 ≤ Lib.idxOfS ns n ∧ (ts.length : Int) ≤ Lib.idxOfS ns n) := by
  unfold found at h
  split at h
  · next h0 =>
    obtain ⟨i, hi⟩ := Int.eq_ofNat_of_zero_le h0
    rw [hi] at h
    simp at h
    right
    omega
  · next h0 => left; omega
abbrev W4 (w : World) (k : Int) (p n : ByteArray) (va vr vn vt : Value) : World := (((w.alloc (.cells #[.int .i64 k, .string p, .string n, va, vr] 31)).alloc (.cells #[vn] 22)).alloc (.cells #[vt] 23)).alloc (.cells #[.int .i64 0, .string ⟨#[]⟩, .string ⟨#[]⟩, .slice none 0 0, .slice none 0 0] 31)
theorem W4_below (w : World) (k : Int) (p n : ByteArray) (va vr vn vt : Value) : Below w.heap.size w (W4 w k p n va vr vn vt) := ((((Below.refl _ _).alloc (Nat.le_refl _) _).alloc (by simp) _).alloc (by simp <;> omega) _).alloc (by simp <;> omega) _
end Go.Proofs.Ytcelpmojhjnggaa
