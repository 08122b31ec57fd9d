/- The document's walk over pairs of parts. -/
import Derived.Test.YtcelpmojhjnggaaQ1
import Derived.Deep.Cut
import Derived.Deep.DeepCutAuto
import Derived.Deep.RegionHeld3
namespace Go.Proofs.Ytcelpmojhjnggaa
open Go Go.RowKit Go.Sort Go.Deep KindsP
set_option maxHeartbeats 4000000
set_option maxRecDepth 100000

/-- pairs of parts -/
theorem walk7_rec6 (d dd : Nat) (ih : WalkAt d) (w0 w : World) (X Y D : Nat) (f : ByteArray → Option Ty) (an : Option Addr) (cn : Nat) (ns : List ByteArray) (pp np : ByteArray) (pa na : ByteArray) (ap rp aa ra : Option Addr) (q1 q2 q3 q4 : Nat) (lap lrp laa lra : List Ty)
    (hn : NamesIs w0 (.slice an ns.length cn) ns) (h1 : RowOf (Lies w0 d) w0 (.slice ap lap.length q1) lap) (h2 : RowOf (Lies w0 d) w0 (.slice rp lrp.length q2) lrp) (h3 : RowOf (Lies w0 dd) w0 (.slice aa laa.length q3) laa) (h4 : RowOf (Lies w0 dd) w0 (.slice ra lra.length q4) lra)
    (hb : Below w0.heap.size w0 w) (hX : w0.heap.size ≤ X) (hY : w0.heap.size ≤ Y) (hXY : X ≠ Y) (hf : Found w X Y D ns f) (hdd : dd ≤ D) (s1 : sizL lap ≤ 1000000000) (s2 : sizL lrp ≤ 1000000000) (s3 : sizL laa ≤ 1000000000) (s4 : sizL lra ≤ 1000000000) :
    Calls Try.prog 40 #[.slice an ns.length cn, .slice (some ⟨X, 0, none⟩) ns.length ns.length, .slice (some ⟨Y, 0, none⟩) ns.length ns.length, .agg #[.int .i64 6, .string pp, .string np, .slice ap lap.length q1, .slice rp lrp.length q2], .agg #[.int .i64 6, .string pa, .string na, .slice aa laa.length q3, .slice ra lra.length q4]] w (WalkPost X Y D ns (infL ns lrp lra (infL ns lap laa f)) w) := by
  have hb2 := alloc2_below w (.cells #[.int .i64 6, .string pp, .string np, .slice ap lap.length q1, .slice rp lrp.length q2] 31) (.cells #[.int .i64 6, .string pa, .string na, .slice aa laa.length q3, .slice ra lra.length q4] 31)
  have hk2 := alloc_known2 (w := w) (cs := #[.int .i64 6, .string pp, .string np, .slice ap lap.length q1, .slice rp lrp.length q2]) (ds := #[.int .i64 6, .string pa, .string na, .slice aa laa.length q3, .slice ra lra.length q4]) (t := 31) (u := 31) (fr := (0, 0)) (gr := (0, 0)) (Below.refl _ _)
  have HF2 := Lib.hid (hf.below hb2)
  have lX := hf.ts.lt
  have lY := hf.hs.lt
  have HNX := Lib.hid (show (w.heap.size ≠ X ∧ w.heap.size ≠ Y ∧ w.heap.size + 1 ≠ X ∧ w.heap.size + 1 ≠ Y) by omega)
  have HC3 := Lib.hid (show (((w.alloc (.cells #[.int .i64 6, .string pp, .string np, .slice ap lap.length q1, .slice rp lrp.length q2] 31)).alloc (.cells #[.int .i64 6, .string pa, .string na, .slice aa laa.length q3, .slice ra lra.length q4] 31)).cell? ⟨w.heap.size, 3, none⟩ = some (.slice ap lap.length q1) ∧ ((w.alloc (.cells #[.int .i64 6, .string pp, .string np, .slice ap lap.length q1, .slice rp lrp.length q2] 31)).alloc (.cells #[.int .i64 6, .string pa, .string na, .slice aa laa.length q3, .slice ra lra.length q4] 31)).cell? ⟨w.heap.size + 1, 3, none⟩ = some (.slice aa laa.length q3)) from ⟨(cell_of_row _ _ 3 _ _ _ hk2.1).trans rfl, (cell_of_row _ _ 3 _ _ _ hk2.2.1).trans rfl⟩)
  have HC4 := Lib.hid (show (((w.alloc (.cells #[.int .i64 6, .string pp, .string np, .slice ap lap.length q1, .slice rp lrp.length q2] 31)).alloc (.cells #[.int .i64 6, .string pa, .string na, .slice aa laa.length q3, .slice ra lra.length q4] 31)).cell? ⟨w.heap.size, 4, none⟩ = some (.slice rp lrp.length q2) ∧ ((w.alloc (.cells #[.int .i64 6, .string pp, .string np, .slice ap lap.length q1, .slice rp lrp.length q2] 31)).alloc (.cells #[.int .i64 6, .string pa, .string na, .slice aa laa.length q3, .slice ra lra.length q4] 31)).cell? ⟨w.heap.size + 1, 4, none⟩ = some (.slice ra lra.length q4)) from ⟨(cell_of_row _ _ 4 _ _ _ hk2.1).trans rfl, (cell_of_row _ _ 4 _ _ _ hk2.2.1).trans rfl⟩)
  have HB3 := Lib.hid hb2
  have HB2 := Lib.hid (hb.trans (hb2.mono hb.size))
  have HSZ := Lib.hid (Nat.le_trans hb.size hb2.size)
  have HN := Lib.hid hn
  have HA1 := Lib.hid h1
  have HR1 := Lib.hid h2
  have HA2 := Lib.hid h3
  have HR2 := Lib.hid h4
  obtain ⟨_, _, e1, hc1, hm1, hpaf⟩ := h1.form
  simp only [Value.slice.injEq, true_and] at e1
  obtain ⟨rfl, rfl⟩ := e1
  obtain ⟨_, _, e2, hc2, hm2, hrpf⟩ := h2.form
  simp only [Value.slice.injEq, true_and] at e2
  obtain ⟨rfl, rfl⟩ := e2
  obtain ⟨_, _, e3, hc3, hm3, haaf⟩ := h3.form
  simp only [Value.slice.injEq, true_and] at e3
  obtain ⟨rfl, rfl⟩ := e3
  obtain ⟨_, _, e4, hc4, hm4, hraf⟩ := h4.form
  simp only [Value.slice.injEq, true_and] at e4
  obtain ⟨rfl, rfl⟩ := e4
  have z1 := siz_len lap
  have z2 := siz_len lrp
  have z3 := siz_len laa
  have z4 := siz_len lra
  have hn1 := hn.1
  obtain ⟨_, _, _, hnl, _⟩ := hn1
  clear hn h1 h2 h3 h4 hf hb hb2 hk2
  go_enter Try.func40, Try.ntmps40
  go_wp2_with fail
  go_loopw [11] (fun iv wr => ∃ (i : Nat) (fi : ByteArray → Option Ty), (i ≤ lap.length ∧ i ≤ laa.length) ∧ iv = .int .i64 i ∧ Found wr X Y D ns fi ∧ Aside X Y ((w.alloc (.cells #[.int .i64 6, .string pp, .string np, .slice ap lap.length q1, .slice rp lrp.length q2] 31)).alloc (.cells #[.int .i64 6, .string pa, .string na, .slice aa laa.length q3, .slice ra lra.length q4] 31)) wr ∧ Hid (infL ns lap laa f = infL ns (lap.drop i) (laa.drop i) fi)) (fun iv _ => lap.length - (intOf iv).toNat)
  case atStart => exact ⟨0, f, ⟨by omega, by omega⟩, rfl, HF2.out, Aside.refl _ _ _, rfl⟩
  case round =>
    obtain ⟨i, fi, ⟨hi1, hi2⟩, rfl, hfo, has, H⟩ := hrel
    have HFO := Lib.hid hfo
    have HAS := Lib.hid has
    have g0 : wr.cell? ⟨w.heap.size, 3, none⟩ = some (.slice ap lap.length q1) := (has.cell HC3.out.1 HNX.out.1 HNX.out.2.1)
    have g1 : wr.cell? ⟨w.heap.size + 1, 3, none⟩ = some (.slice aa laa.length q3) := (has.cell HC3.out.2 HNX.out.2.2.1 HNX.out.2.2.2)
    have HB0 := Lib.hid (has.below HB2.out HSZ.out hX hY)
    clear hfo has
    by_cases hlt : i < lap.length ∧ i < laa.length
    · obtain ⟨hlt1, hlt2⟩ := hlt
      obtain ⟨b1, o1, rfl⟩ := hpaf (by omega)
      obtain ⟨b2, o2, rfl⟩ := haaf (by omega)
      obtain ⟨z0, z1, z2, z3, z4, hlx, hfx⟩ := HA1.out.get i lap[i] (by simp)
      obtain ⟨z5, z6, z7, z8, z9, hly, hfy⟩ := HA2.out.get i laa[i] (by simp)
      have HCW := Lib.hid (ih w0 wr.drew _ X Y D fi (.slice an ns.length cn) _ _ ns lap[i] laa[i] HN.out hlx hly HB0.out.drew hX hY hXY (HFO.out.below (Below.refl _ _).drew) hdd (by have := siz_get lap i hlt1; omega) (by have := siz_get laa i hlt2; omega))
      obtain ⟨x0, x1, x2, x3, x4, x5, x6, x7, x8, rfl, rfl, rfl, rfl, rfl⟩ := lies_form hlx
      obtain ⟨y0, y1, y2, y3, y4, y5, y6, y7, y8, rfl, rfl, rfl, rfl, rfl⟩ := lies_form hly
      have lb1 := World.block_lt_of_cell? w0 _ hfx.c0
      have lb2 := World.block_lt_of_cell? w0 _ hfy.c0
      have e1 : (b1 ≠ X ∧ b1 ≠ Y) ∧ (b2 ≠ X ∧ b2 ≠ Y) := by
        have l1 : b1 < w0.heap.size := lb1
        have l2 : b2 < w0.heap.size := lb2
        omega
      obtain ⟨u0, u1, u2, u3, u4⟩ := hfx.below HB0.out
      obtain ⟨v0, v1, v2, v3, v4⟩ := hfy.below HB0.out
      have HSW := Lib.hid (fun (W' : World) (h : Aside X Y wr W') => (show W'.cell? ⟨w.heap.size, 3, none⟩ = some (.slice (some ⟨b1, o1, none⟩) lap.length q1) ∧ W'.cell? ⟨w.heap.size + 1, 3, none⟩ = some (.slice (some ⟨b2, o2, none⟩) laa.length q3) ∧ W'.cell? ⟨b1, o1 + i * 5, none⟩ = some (.int .i64 x0) ∧ W'.cell? ⟨b1, o1 + i * 5 + 1, none⟩ = some (.string x1) ∧ W'.cell? ⟨b1, o1 + i * 5 + 2, none⟩ = some (.string x2) ∧ W'.cell? ⟨b1, o1 + i * 5 + 3, none⟩ = some (.slice x3 x4 x5) ∧ W'.cell? ⟨b1, o1 + i * 5 + 4, none⟩ = some (.slice x6 x7 x8) ∧ W'.cell? ⟨b2, o2 + i * 5, none⟩ = some (.int .i64 y0) ∧ W'.cell? ⟨b2, o2 + i * 5 + 1, none⟩ = some (.string y1) ∧ W'.cell? ⟨b2, o2 + i * 5 + 2, none⟩ = some (.string y2) ∧ W'.cell? ⟨b2, o2 + i * 5 + 3, none⟩ = some (.slice y3 y4 y5) ∧ W'.cell? ⟨b2, o2 + i * 5 + 4, none⟩ = some (.slice y6 y7 y8) from ⟨h.cell g0 HNX.out.1 HNX.out.2.1, h.cell g1 HNX.out.2.2.1 HNX.out.2.2.2, h.cell u0 e1.1.1 e1.1.2, h.cell u1 e1.1.1 e1.1.2, h.cell u2 e1.1.1 e1.1.2, h.cell u3 e1.1.1 e1.1.2, h.cell u4 e1.1.1 e1.1.2, h.cell v0 e1.2.1 e1.2.2, h.cell v1 e1.2.1 e1.2.2, h.cell v2 e1.2.1 e1.2.2, h.cell v3 e1.2.1 e1.2.2, h.cell v4 e1.2.1 e1.2.2⟩))
      have i0 : (0 : Int) ≤ (i : Int) := by omega
      have i1 : (i : Int) < (lap.length : Int) := by omega
      have i2 : (i : Int) < (laa.length : Int) := by omega
      clear hlx hly hfx hfy lb1 lb2
      go_upto_region 11 with fail
      go_region_held3 (fun w' => w'.cell? ⟨w.heap.size, 3, none⟩ = some (.slice (some ⟨b1, o1, none⟩) lap.length q1) ∧ w'.cell? ⟨w.heap.size + 1, 3, none⟩ = some (.slice (some ⟨b2, o2, none⟩) laa.length q3) ∧ w'.cell? ⟨b1, o1 + i * 5, none⟩ = some (.int .i64 x0) ∧ w'.cell? ⟨b1, o1 + i * 5 + 1, none⟩ = some (.string x1) ∧ w'.cell? ⟨b1, o1 + i * 5 + 2, none⟩ = some (.string x2) ∧ w'.cell? ⟨b1, o1 + i * 5 + 3, none⟩ = some (.slice x3 x4 x5) ∧ w'.cell? ⟨b1, o1 + i * 5 + 4, none⟩ = some (.slice x6 x7 x8) ∧ w'.cell? ⟨b2, o2 + i * 5, none⟩ = some (.int .i64 y0) ∧ w'.cell? ⟨b2, o2 + i * 5 + 1, none⟩ = some (.string y1) ∧ w'.cell? ⟨b2, o2 + i * 5 + 2, none⟩ = some (.string y2) ∧ w'.cell? ⟨b2, o2 + i * 5 + 3, none⟩ = some (.slice y3 y4 y5) ∧ w'.cell? ⟨b2, o2 + i * 5 + 4, none⟩ = some (.slice y6 y7 y8)) (first | exact HSW.out _ (Aside.of (Below.refl _ _).drew) | exact HSW.out _ HA7.out) (first | (go_at_call 40; refine HCW.out.mono ?_; rintro e w7 ⟨⟨u, rfl⟩, hf7, ha7⟩; have HF7 := Lib.hid hf7; have HA7 : Hid (Aside X Y wr w7) := Lib.hid ⟨ha7.os, ha7.tape, ha7.output, ha7.size, ha7.block⟩; clear hf7 ha7))
      go_wp2_with fail
      refine ⟨⟨i + 1, _, ⟨by omega, by omega⟩, by go_num, HF7.out, HAS.out.trans HA7.out, ?_⟩, by simp [intOf]; omega⟩
      show _ = _
      rw [H.out, infL_at ns lap laa i hlt1 hlt2]
    · have HE := Lib.hid (show infL ns lap laa f = fi by rw [H.out]; exact infL_end ns lap laa i (by omega) fi)
      clear H
      obtain hc | ⟨hc, hd⟩ : ¬ i < lap.length ∨ (i < lap.length ∧ ¬ i < laa.length) := by omega
      all_goals
        go_wp2_with fail
        obtain ⟨f1, hf1⟩ : ∃ x, x = fi := ⟨_, rfl⟩
        rw [← hf1] at HE HFO
        have HE1 := HE
        have HFO1 := HFO
        have HAS1 := HAS
        clear HE HFO HAS hf1 g0 g1 HB0 hpaf haaf HA1 HA2 hlt hi1 hi2 hc
        go_loopw [12] (fun iv wr => ∃ (i : Nat) (fi : ByteArray → Option Ty), (i ≤ lrp.length ∧ i ≤ lra.length) ∧ iv = .int .i64 i ∧ Found wr X Y D ns fi ∧ Aside X Y ((w.alloc (.cells #[.int .i64 6, .string pp, .string np, .slice ap lap.length q1, .slice rp lrp.length q2] 31)).alloc (.cells #[.int .i64 6, .string pa, .string na, .slice aa laa.length q3, .slice ra lra.length q4] 31)) wr ∧ Hid (infL ns lrp lra f1 = infL ns (lrp.drop i) (lra.drop i) fi)) (fun iv _ => lrp.length - (intOf iv).toNat)
        case atStart => exact ⟨0, f1, ⟨by omega, by omega⟩, rfl, HFO1.out, HAS1.out, rfl⟩
        case round =>
          obtain ⟨i, fi, ⟨hi1, hi2⟩, rfl, hfo, has, H⟩ := hrel
          have HFO := Lib.hid hfo
          have HAS := Lib.hid has
          have g0 : wr.cell? ⟨w.heap.size, 4, none⟩ = some (.slice rp lrp.length q2) := (has.cell HC4.out.1 HNX.out.1 HNX.out.2.1)
          have g1 : wr.cell? ⟨w.heap.size + 1, 4, none⟩ = some (.slice ra lra.length q4) := (has.cell HC4.out.2 HNX.out.2.2.1 HNX.out.2.2.2)
          have HB0 := Lib.hid (has.below HB2.out HSZ.out hX hY)
          clear hfo has
          by_cases hlt : i < lrp.length ∧ i < lra.length
          · obtain ⟨hlt1, hlt2⟩ := hlt
            obtain ⟨b1, o1, rfl⟩ := hrpf (by omega)
            obtain ⟨b2, o2, rfl⟩ := hraf (by omega)
            obtain ⟨z0, z1, z2, z3, z4, hlx, hfx⟩ := HR1.out.get i lrp[i] (by simp)
            obtain ⟨z5, z6, z7, z8, z9, hly, hfy⟩ := HR2.out.get i lra[i] (by simp)
            have HCW := Lib.hid (ih w0 wr.drew _ X Y D fi (.slice an ns.length cn) _ _ ns lrp[i] lra[i] HN.out hlx hly HB0.out.drew hX hY hXY (HFO.out.below (Below.refl _ _).drew) hdd (by have := siz_get lrp i hlt1; omega) (by have := siz_get lra i hlt2; omega))
            obtain ⟨x0, x1, x2, x3, x4, x5, x6, x7, x8, rfl, rfl, rfl, rfl, rfl⟩ := lies_form hlx
            obtain ⟨y0, y1, y2, y3, y4, y5, y6, y7, y8, rfl, rfl, rfl, rfl, rfl⟩ := lies_form hly
            have lb1 := World.block_lt_of_cell? w0 _ hfx.c0
            have lb2 := World.block_lt_of_cell? w0 _ hfy.c0
            have e1 : (b1 ≠ X ∧ b1 ≠ Y) ∧ (b2 ≠ X ∧ b2 ≠ Y) := by
              have l1 : b1 < w0.heap.size := lb1
              have l2 : b2 < w0.heap.size := lb2
              omega
            obtain ⟨u0, u1, u2, u3, u4⟩ := hfx.below HB0.out
            obtain ⟨v0, v1, v2, v3, v4⟩ := hfy.below HB0.out
            have HSW := Lib.hid (fun (W' : World) (h : Aside X Y wr W') => (show W'.cell? ⟨w.heap.size, 4, none⟩ = some (.slice (some ⟨b1, o1, none⟩) lrp.length q2) ∧ W'.cell? ⟨w.heap.size + 1, 4, none⟩ = some (.slice (some ⟨b2, o2, none⟩) lra.length q4) ∧ W'.cell? ⟨b1, o1 + i * 5, none⟩ = some (.int .i64 x0) ∧ W'.cell? ⟨b1, o1 + i * 5 + 1, none⟩ = some (.string x1) ∧ W'.cell? ⟨b1, o1 + i * 5 + 2, none⟩ = some (.string x2) ∧ W'.cell? ⟨b1, o1 + i * 5 + 3, none⟩ = some (.slice x3 x4 x5) ∧ W'.cell? ⟨b1, o1 + i * 5 + 4, none⟩ = some (.slice x6 x7 x8) ∧ W'.cell? ⟨b2, o2 + i * 5, none⟩ = some (.int .i64 y0) ∧ W'.cell? ⟨b2, o2 + i * 5 + 1, none⟩ = some (.string y1) ∧ W'.cell? ⟨b2, o2 + i * 5 + 2, none⟩ = some (.string y2) ∧ W'.cell? ⟨b2, o2 + i * 5 + 3, none⟩ = some (.slice y3 y4 y5) ∧ W'.cell? ⟨b2, o2 + i * 5 + 4, none⟩ = some (.slice y6 y7 y8) from ⟨h.cell g0 HNX.out.1 HNX.out.2.1, h.cell g1 HNX.out.2.2.1 HNX.out.2.2.2, h.cell u0 e1.1.1 e1.1.2, h.cell u1 e1.1.1 e1.1.2, h.cell u2 e1.1.1 e1.1.2, h.cell u3 e1.1.1 e1.1.2, h.cell u4 e1.1.1 e1.1.2, h.cell v0 e1.2.1 e1.2.2, h.cell v1 e1.2.1 e1.2.2, h.cell v2 e1.2.1 e1.2.2, h.cell v3 e1.2.1 e1.2.2, h.cell v4 e1.2.1 e1.2.2⟩))
            have i0 : (0 : Int) ≤ (i : Int) := by omega
            have i1 : (i : Int) < (lrp.length : Int) := by omega
            have i2 : (i : Int) < (lra.length : Int) := by omega
            clear hlx hly hfx hfy lb1 lb2
            go_upto_region 15 with fail
            go_region_held3 (fun w' => w'.cell? ⟨w.heap.size, 4, none⟩ = some (.slice (some ⟨b1, o1, none⟩) lrp.length q2) ∧ w'.cell? ⟨w.heap.size + 1, 4, none⟩ = some (.slice (some ⟨b2, o2, none⟩) lra.length q4) ∧ w'.cell? ⟨b1, o1 + i * 5, none⟩ = some (.int .i64 x0) ∧ w'.cell? ⟨b1, o1 + i * 5 + 1, none⟩ = some (.string x1) ∧ w'.cell? ⟨b1, o1 + i * 5 + 2, none⟩ = some (.string x2) ∧ w'.cell? ⟨b1, o1 + i * 5 + 3, none⟩ = some (.slice x3 x4 x5) ∧ w'.cell? ⟨b1, o1 + i * 5 + 4, none⟩ = some (.slice x6 x7 x8) ∧ w'.cell? ⟨b2, o2 + i * 5, none⟩ = some (.int .i64 y0) ∧ w'.cell? ⟨b2, o2 + i * 5 + 1, none⟩ = some (.string y1) ∧ w'.cell? ⟨b2, o2 + i * 5 + 2, none⟩ = some (.string y2) ∧ w'.cell? ⟨b2, o2 + i * 5 + 3, none⟩ = some (.slice y3 y4 y5) ∧ w'.cell? ⟨b2, o2 + i * 5 + 4, none⟩ = some (.slice y6 y7 y8)) (first | exact HSW.out _ (Aside.of (Below.refl _ _).drew) | exact HSW.out _ HA7.out) (first | (go_at_call 40; refine HCW.out.mono ?_; rintro e w7 ⟨⟨u, rfl⟩, hf7, ha7⟩; have HF7 := Lib.hid hf7; have HA7 : Hid (Aside X Y wr w7) := Lib.hid ⟨ha7.os, ha7.tape, ha7.output, ha7.size, ha7.block⟩; clear hf7 ha7))
            go_wp2_with fail
            refine ⟨⟨i + 1, _, ⟨by omega, by omega⟩, by go_num, HF7.out, HAS.out.trans HA7.out, ?_⟩, by simp [intOf]; omega⟩
            show _ = _
            rw [H.out, infL_at ns lrp lra i hlt1 hlt2]
          · have HE := Lib.hid (show infL ns lrp lra f1 = fi by rw [H.out]; exact infL_end ns lrp lra i (by omega) fi)
            clear H
            obtain hc | ⟨hc, hd⟩ : ¬ i < lrp.length ∨ (i < lrp.length ∧ ¬ i < lra.length) := by omega
            all_goals
              go_wp2_with fail
              go_end0
              refine ⟨⟨_, rfl⟩, ?_, (Aside.of HB3.out).trans HAS.out⟩
              rw [HE1.out, HE.out]
              exact HFO.out
/-- pairs of parts -/
theorem walk7_rec7 (d dd : Nat) (ih : WalkAt d) (w0 w : World) (X Y D : Nat) (f : ByteArray → Option Ty) (an : Option Addr) (cn : Nat) (ns : List ByteArray) (pp np : ByteArray) (pa na : ByteArray) (ap rp aa ra : Option Addr) (q1 q2 q3 q4 : Nat) (lap lrp laa lra : List Ty)
    (hn : NamesIs w0 (.slice an ns.length cn) ns) (h1 : RowOf (Lies w0 d) w0 (.slice ap lap.length q1) lap) (h2 : RowOf (Lies w0 d) w0 (.slice rp lrp.length q2) lrp) (h3 : RowOf (Lies w0 dd) w0 (.slice aa laa.length q3) laa) (h4 : RowOf (Lies w0 dd) w0 (.slice ra lra.length q4) lra)
    (hb : Below w0.heap.size w0 w) (hX : w0.heap.size ≤ X) (hY : w0.heap.size ≤ Y) (hXY : X ≠ Y) (hf : Found w X Y D ns f) (hdd : dd ≤ D) (s1 : sizL lap ≤ 1000000000) (s2 : sizL lrp ≤ 1000000000) (s3 : sizL laa ≤ 1000000000) (s4 : sizL lra ≤ 1000000000) :
    Calls Try.prog 40 #[.slice an ns.length cn, .slice (some ⟨X, 0, none⟩) ns.length ns.length, .slice (some ⟨Y, 0, none⟩) ns.length ns.length, .agg #[.int .i64 7, .string pp, .string np, .slice ap lap.length q1, .slice rp lrp.length q2], .agg #[.int .i64 7, .string pa, .string na, .slice aa laa.length q3, .slice ra lra.length q4]] w (WalkPost X Y D ns (infL ns lrp lra (infL ns lap laa f)) w) := by
  have hb2 := alloc2_below w (.cells #[.int .i64 7, .string pp, .string np, .slice ap lap.length q1, .slice rp lrp.length q2] 31) (.cells #[.int .i64 7, .string pa, .string na, .slice aa laa.length q3, .slice ra lra.length q4] 31)
  have hk2 := alloc_known2 (w := w) (cs := #[.int .i64 7, .string pp, .string np, .slice ap lap.length q1, .slice rp lrp.length q2]) (ds := #[.int .i64 7, .string pa, .string na, .slice aa laa.length q3, .slice ra lra.length q4]) (t := 31) (u := 31) (fr := (0, 0)) (gr := (0, 0)) (Below.refl _ _)
  have HF2 := Lib.hid (hf.below hb2)
  have lX := hf.ts.lt
  have lY := hf.hs.lt
  have HNX := Lib.hid (show (w.heap.size ≠ X ∧ w.heap.size ≠ Y ∧ w.heap.size + 1 ≠ X ∧ w.heap.size + 1 ≠ Y) by omega)
  have HC3 := Lib.hid (show (((w.alloc (.cells #[.int .i64 7, .string pp, .string np, .slice ap lap.length q1, .slice rp lrp.length q2] 31)).alloc (.cells #[.int .i64 7, .string pa, .string na, .slice aa laa.length q3, .slice ra lra.length q4] 31)).cell? ⟨w.heap.size, 3, none⟩ = some (.slice ap lap.length q1) ∧ ((w.alloc (.cells #[.int .i64 7, .string pp, .string np, .slice ap lap.length q1, .slice rp lrp.length q2] 31)).alloc (.cells #[.int .i64 7, .string pa, .string na, .slice aa laa.length q3, .slice ra lra.length q4] 31)).cell? ⟨w.heap.size + 1, 3, none⟩ = some (.slice aa laa.length q3)) from ⟨(cell_of_row _ _ 3 _ _ _ hk2.1).trans rfl, (cell_of_row _ _ 3 _ _ _ hk2.2.1).trans rfl⟩)
  have HC4 := Lib.hid (show (((w.alloc (.cells #[.int .i64 7, .string pp, .string np, .slice ap lap.length q1, .slice rp lrp.length q2] 31)).alloc (.cells #[.int .i64 7, .string pa, .string na, .slice aa laa.length q3, .slice ra lra.length q4] 31)).cell? ⟨w.heap.size, 4, none⟩ = some (.slice rp lrp.length q2) ∧ ((w.alloc (.cells #[.int .i64 7, .string pp, .string np, .slice ap lap.length q1, .slice rp lrp.length q2] 31)).alloc (.cells #[.int .i64 7, .string pa, .string na, .slice aa laa.length q3, .slice ra lra.length q4] 31)).cell? ⟨w.heap.size + 1, 4, none⟩ = some (.slice ra lra.length q4)) from ⟨(cell_of_row _ _ 4 _ _ _ hk2.1).trans rfl, (cell_of_row _ _ 4 _ _ _ hk2.2.1).trans rfl⟩)
  have HB3 := Lib.hid hb2
  have HB2 := Lib.hid (hb.trans (hb2.mono hb.size))
  have HSZ := Lib.hid (Nat.le_trans hb.size hb2.size)
  have HN := Lib.hid hn
  have HA1 := Lib.hid h1
  have HR1 := Lib.hid h2
  have HA2 := Lib.hid h3
  have HR2 := Lib.hid h4
  obtain ⟨_, _, e1, hc1, hm1, hpaf⟩ := h1.form
  simp only [Value.slice.injEq, true_and] at e1
  obtain ⟨rfl, rfl⟩ := e1
  obtain ⟨_, _, e2, hc2, hm2, hrpf⟩ := h2.form
  simp only [Value.slice.injEq, true_and] at e2
  obtain ⟨rfl, rfl⟩ := e2
  obtain ⟨_, _, e3, hc3, hm3, haaf⟩ := h3.form
  simp only [Value.slice.injEq, true_and] at e3
  obtain ⟨rfl, rfl⟩ := e3
  obtain ⟨_, _, e4, hc4, hm4, hraf⟩ := h4.form
  simp only [Value.slice.injEq, true_and] at e4
  obtain ⟨rfl, rfl⟩ := e4
  have z1 := siz_len lap
  have z2 := siz_len lrp
  have z3 := siz_len laa
  have z4 := siz_len lra
  have hn1 := hn.1
  obtain ⟨_, _, _, hnl, _⟩ := hn1
  clear hn h1 h2 h3 h4 hf hb hb2 hk2
  go_enter Try.func40, Try.ntmps40
  go_wp2_with fail
  go_loopw [11] (fun iv wr => ∃ (i : Nat) (fi : ByteArray → Option Ty), (i ≤ lap.length ∧ i ≤ laa.length) ∧ iv = .int .i64 i ∧ Found wr X Y D ns fi ∧ Aside X Y ((w.alloc (.cells #[.int .i64 7, .string pp, .string np, .slice ap lap.length q1, .slice rp lrp.length q2] 31)).alloc (.cells #[.int .i64 7, .string pa, .string na, .slice aa laa.length q3, .slice ra lra.length q4] 31)) wr ∧ Hid (infL ns lap laa f = infL ns (lap.drop i) (laa.drop i) fi)) (fun iv _ => lap.length - (intOf iv).toNat)
  case atStart => exact ⟨0, f, ⟨by omega, by omega⟩, rfl, HF2.out, Aside.refl _ _ _, rfl⟩
  case round =>
    obtain ⟨i, fi, ⟨hi1, hi2⟩, rfl, hfo, has, H⟩ := hrel
    have HFO := Lib.hid hfo
    have HAS := Lib.hid has
    have g0 : wr.cell? ⟨w.heap.size, 3, none⟩ = some (.slice ap lap.length q1) := (has.cell HC3.out.1 HNX.out.1 HNX.out.2.1)
    have g1 : wr.cell? ⟨w.heap.size + 1, 3, none⟩ = some (.slice aa laa.length q3) := (has.cell HC3.out.2 HNX.out.2.2.1 HNX.out.2.2.2)
    have HB0 := Lib.hid (has.below HB2.out HSZ.out hX hY)
    clear hfo has
    by_cases hlt : i < lap.length ∧ i < laa.length
    · obtain ⟨hlt1, hlt2⟩ := hlt
      obtain ⟨b1, o1, rfl⟩ := hpaf (by omega)
      obtain ⟨b2, o2, rfl⟩ := haaf (by omega)
      obtain ⟨z0, z1, z2, z3, z4, hlx, hfx⟩ := HA1.out.get i lap[i] (by simp)
      obtain ⟨z5, z6, z7, z8, z9, hly, hfy⟩ := HA2.out.get i laa[i] (by simp)
      have HCW := Lib.hid (ih w0 wr.drew _ X Y D fi (.slice an ns.length cn) _ _ ns lap[i] laa[i] HN.out hlx hly HB0.out.drew hX hY hXY (HFO.out.below (Below.refl _ _).drew) hdd (by have := siz_get lap i hlt1; omega) (by have := siz_get laa i hlt2; omega))
      obtain ⟨x0, x1, x2, x3, x4, x5, x6, x7, x8, rfl, rfl, rfl, rfl, rfl⟩ := lies_form hlx
      obtain ⟨y0, y1, y2, y3, y4, y5, y6, y7, y8, rfl, rfl, rfl, rfl, rfl⟩ := lies_form hly
      have lb1 := World.block_lt_of_cell? w0 _ hfx.c0
      have lb2 := World.block_lt_of_cell? w0 _ hfy.c0
      have e1 : (b1 ≠ X ∧ b1 ≠ Y) ∧ (b2 ≠ X ∧ b2 ≠ Y) := by
        have l1 : b1 < w0.heap.size := lb1
        have l2 : b2 < w0.heap.size := lb2
        omega
      obtain ⟨u0, u1, u2, u3, u4⟩ := hfx.below HB0.out
      obtain ⟨v0, v1, v2, v3, v4⟩ := hfy.below HB0.out
      have HSW := Lib.hid (fun (W' : World) (h : Aside X Y wr W') => (show W'.cell? ⟨w.heap.size, 3, none⟩ = some (.slice (some ⟨b1, o1, none⟩) lap.length q1) ∧ W'.cell? ⟨w.heap.size + 1, 3, none⟩ = some (.slice (some ⟨b2, o2, none⟩) laa.length q3) ∧ W'.cell? ⟨b1, o1 + i * 5, none⟩ = some (.int .i64 x0) ∧ W'.cell? ⟨b1, o1 + i * 5 + 1, none⟩ = some (.string x1) ∧ W'.cell? ⟨b1, o1 + i * 5 + 2, none⟩ = some (.string x2) ∧ W'.cell? ⟨b1, o1 + i * 5 + 3, none⟩ = some (.slice x3 x4 x5) ∧ W'.cell? ⟨b1, o1 + i * 5 + 4, none⟩ = some (.slice x6 x7 x8) ∧ W'.cell? ⟨b2, o2 + i * 5, none⟩ = some (.int .i64 y0) ∧ W'.cell? ⟨b2, o2 + i * 5 + 1, none⟩ = some (.string y1) ∧ W'.cell? ⟨b2, o2 + i * 5 + 2, none⟩ = some (.string y2) ∧ W'.cell? ⟨b2, o2 + i * 5 + 3, none⟩ = some (.slice y3 y4 y5) ∧ W'.cell? ⟨b2, o2 + i * 5 + 4, none⟩ = some (.slice y6 y7 y8) from ⟨h.cell g0 HNX.out.1 HNX.out.2.1, h.cell g1 HNX.out.2.2.1 HNX.out.2.2.2, h.cell u0 e1.1.1 e1.1.2, h.cell u1 e1.1.1 e1.1.2, h.cell u2 e1.1.1 e1.1.2, h.cell u3 e1.1.1 e1.1.2, h.cell u4 e1.1.1 e1.1.2, h.cell v0 e1.2.1 e1.2.2, h.cell v1 e1.2.1 e1.2.2, h.cell v2 e1.2.1 e1.2.2, h.cell v3 e1.2.1 e1.2.2, h.cell v4 e1.2.1 e1.2.2⟩))
      have i0 : (0 : Int) ≤ (i : Int) := by omega
      have i1 : (i : Int) < (lap.length : Int) := by omega
      have i2 : (i : Int) < (laa.length : Int) := by omega
      clear hlx hly hfx hfy lb1 lb2
      go_upto_region 11 with fail
      go_region_held3 (fun w' => w'.cell? ⟨w.heap.size, 3, none⟩ = some (.slice (some ⟨b1, o1, none⟩) lap.length q1) ∧ w'.cell? ⟨w.heap.size + 1, 3, none⟩ = some (.slice (some ⟨b2, o2, none⟩) laa.length q3) ∧ w'.cell? ⟨b1, o1 + i * 5, none⟩ = some (.int .i64 x0) ∧ w'.cell? ⟨b1, o1 + i * 5 + 1, none⟩ = some (.string x1) ∧ w'.cell? ⟨b1, o1 + i * 5 + 2, none⟩ = some (.string x2) ∧ w'.cell? ⟨b1, o1 + i * 5 + 3, none⟩ = some (.slice x3 x4 x5) ∧ w'.cell? ⟨b1, o1 + i * 5 + 4, none⟩ = some (.slice x6 x7 x8) ∧ w'.cell? ⟨b2, o2 + i * 5, none⟩ = some (.int .i64 y0) ∧ w'.cell? ⟨b2, o2 + i * 5 + 1, none⟩ = some (.string y1) ∧ w'.cell? ⟨b2, o2 + i * 5 + 2, none⟩ = some (.string y2) ∧ w'.cell? ⟨b2, o2 + i * 5 + 3, none⟩ = some (.slice y3 y4 y5) ∧ w'.cell? ⟨b2, o2 + i * 5 + 4, none⟩ = some (.slice y6 y7 y8)) (first | exact HSW.out _ (Aside.of (Below.refl _ _).drew) | exact HSW.out _ HA7.out) (first | (go_at_call 40; refine HCW.out.mono ?_; rintro e w7 ⟨⟨u, rfl⟩, hf7, ha7⟩; have HF7 := Lib.hid hf7; have HA7 : Hid (Aside X Y wr w7) := Lib.hid ⟨ha7.os, ha7.tape, ha7.output, ha7.size, ha7.block⟩; clear hf7 ha7))
      go_wp2_with fail
      refine ⟨⟨i + 1, _, ⟨by omega, by omega⟩, by go_num, HF7.out, HAS.out.trans HA7.out, ?_⟩, by simp [intOf]; omega⟩
      show _ = _
      rw [H.out, infL_at ns lap laa i hlt1 hlt2]
    · have HE := Lib.hid (show infL ns lap laa f = fi by rw [H.out]; exact infL_end ns lap laa i (by omega) fi)
      clear H
      obtain hc | ⟨hc, hd⟩ : ¬ i < lap.length ∨ (i < lap.length ∧ ¬ i < laa.length) := by omega
      all_goals
        go_wp2_with fail
        obtain ⟨f1, hf1⟩ : ∃ x, x = fi := ⟨_, rfl⟩
        rw [← hf1] at HE HFO
        have HE1 := HE
        have HFO1 := HFO
        have HAS1 := HAS
        clear HE HFO HAS hf1 g0 g1 HB0 hpaf haaf HA1 HA2 hlt hi1 hi2 hc
        go_loopw [12] (fun iv wr => ∃ (i : Nat) (fi : ByteArray → Option Ty), (i ≤ lrp.length ∧ i ≤ lra.length) ∧ iv = .int .i64 i ∧ Found wr X Y D ns fi ∧ Aside X Y ((w.alloc (.cells #[.int .i64 7, .string pp, .string np, .slice ap lap.length q1, .slice rp lrp.length q2] 31)).alloc (.cells #[.int .i64 7, .string pa, .string na, .slice aa laa.length q3, .slice ra lra.length q4] 31)) wr ∧ Hid (infL ns lrp lra f1 = infL ns (lrp.drop i) (lra.drop i) fi)) (fun iv _ => lrp.length - (intOf iv).toNat)
        case atStart => exact ⟨0, f1, ⟨by omega, by omega⟩, rfl, HFO1.out, HAS1.out, rfl⟩
        case round =>
          obtain ⟨i, fi, ⟨hi1, hi2⟩, rfl, hfo, has, H⟩ := hrel
          have HFO := Lib.hid hfo
          have HAS := Lib.hid has
          have g0 : wr.cell? ⟨w.heap.size, 4, none⟩ = some (.slice rp lrp.length q2) := (has.cell HC4.out.1 HNX.out.1 HNX.out.2.1)
          have g1 : wr.cell? ⟨w.heap.size + 1, 4, none⟩ = some (.slice ra lra.length q4) := (has.cell HC4.out.2 HNX.out.2.2.1 HNX.out.2.2.2)
          have HB0 := Lib.hid (has.below HB2.out HSZ.out hX hY)
          clear hfo has
          by_cases hlt : i < lrp.length ∧ i < lra.length
          · obtain ⟨hlt1, hlt2⟩ := hlt
            obtain ⟨b1, o1, rfl⟩ := hrpf (by omega)
            obtain ⟨b2, o2, rfl⟩ := hraf (by omega)
            obtain ⟨z0, z1, z2, z3, z4, hlx, hfx⟩ := HR1.out.get i lrp[i] (by simp)
            obtain ⟨z5, z6, z7, z8, z9, hly, hfy⟩ := HR2.out.get i lra[i] (by simp)
            have HCW := Lib.hid (ih w0 wr.drew _ X Y D fi (.slice an ns.length cn) _ _ ns lrp[i] lra[i] HN.out hlx hly HB0.out.drew hX hY hXY (HFO.out.below (Below.refl _ _).drew) hdd (by have := siz_get lrp i hlt1; omega) (by have := siz_get lra i hlt2; omega))
            obtain ⟨x0, x1, x2, x3, x4, x5, x6, x7, x8, rfl, rfl, rfl, rfl, rfl⟩ := lies_form hlx
            obtain ⟨y0, y1, y2, y3, y4, y5, y6, y7, y8, rfl, rfl, rfl, rfl, rfl⟩ := lies_form hly
            have lb1 := World.block_lt_of_cell? w0 _ hfx.c0
            have lb2 := World.block_lt_of_cell? w0 _ hfy.c0
            have e1 : (b1 ≠ X ∧ b1 ≠ Y) ∧ (b2 ≠ X ∧ b2 ≠ Y) := by
              have l1 : b1 < w0.heap.size := lb1
              have l2 : b2 < w0.heap.size := lb2
              omega
            obtain ⟨u0, u1, u2, u3, u4⟩ := hfx.below HB0.out
            obtain ⟨v0, v1, v2, v3, v4⟩ := hfy.below HB0.out
            have HSW := Lib.hid (fun (W' : World) (h : Aside X Y wr W') => (show W'.cell? ⟨w.heap.size, 4, none⟩ = some (.slice (some ⟨b1, o1, none⟩) lrp.length q2) ∧ W'.cell? ⟨w.heap.size + 1, 4, none⟩ = some (.slice (some ⟨b2, o2, none⟩) lra.length q4) ∧ W'.cell? ⟨b1, o1 + i * 5, none⟩ = some (.int .i64 x0) ∧ W'.cell? ⟨b1, o1 + i * 5 + 1, none⟩ = some (.string x1) ∧ W'.cell? ⟨b1, o1 + i * 5 + 2, none⟩ = some (.string x2) ∧ W'.cell? ⟨b1, o1 + i * 5 + 3, none⟩ = some (.slice x3 x4 x5) ∧ W'.cell? ⟨b1, o1 + i * 5 + 4, none⟩ = some (.slice x6 x7 x8) ∧ W'.cell? ⟨b2, o2 + i * 5, none⟩ = some (.int .i64 y0) ∧ W'.cell? ⟨b2, o2 + i * 5 + 1, none⟩ = some (.string y1) ∧ W'.cell? ⟨b2, o2 + i * 5 + 2, none⟩ = some (.string y2) ∧ W'.cell? ⟨b2, o2 + i * 5 + 3, none⟩ = some (.slice y3 y4 y5) ∧ W'.cell? ⟨b2, o2 + i * 5 + 4, none⟩ = some (.slice y6 y7 y8) from ⟨h.cell g0 HNX.out.1 HNX.out.2.1, h.cell g1 HNX.out.2.2.1 HNX.out.2.2.2, h.cell u0 e1.1.1 e1.1.2, h.cell u1 e1.1.1 e1.1.2, h.cell u2 e1.1.1 e1.1.2, h.cell u3 e1.1.1 e1.1.2, h.cell u4 e1.1.1 e1.1.2, h.cell v0 e1.2.1 e1.2.2, h.cell v1 e1.2.1 e1.2.2, h.cell v2 e1.2.1 e1.2.2, h.cell v3 e1.2.1 e1.2.2, h.cell v4 e1.2.1 e1.2.2⟩))
            have i0 : (0 : Int) ≤ (i : Int) := by omega
            have i1 : (i : Int) < (lrp.length : Int) := by omega
            have i2 : (i : Int) < (lra.length : Int) := by omega
            clear hlx hly hfx hfy lb1 lb2
            go_upto_region 15 with fail
            go_region_held3 (fun w' => w'.cell? ⟨w.heap.size, 4, none⟩ = some (.slice (some ⟨b1, o1, none⟩) lrp.length q2) ∧ w'.cell? ⟨w.heap.size + 1, 4, none⟩ = some (.slice (some ⟨b2, o2, none⟩) lra.length q4) ∧ w'.cell? ⟨b1, o1 + i * 5, none⟩ = some (.int .i64 x0) ∧ w'.cell? ⟨b1, o1 + i * 5 + 1, none⟩ = some (.string x1) ∧ w'.cell? ⟨b1, o1 + i * 5 + 2, none⟩ = some (.string x2) ∧ w'.cell? ⟨b1, o1 + i * 5 + 3, none⟩ = some (.slice x3 x4 x5) ∧ w'.cell? ⟨b1, o1 + i * 5 + 4, none⟩ = some (.slice x6 x7 x8) ∧ w'.cell? ⟨b2, o2 + i * 5, none⟩ = some (.int .i64 y0) ∧ w'.cell? ⟨b2, o2 + i * 5 + 1, none⟩ = some (.string y1) ∧ w'.cell? ⟨b2, o2 + i * 5 + 2, none⟩ = some (.string y2) ∧ w'.cell? ⟨b2, o2 + i * 5 + 3, none⟩ = some (.slice y3 y4 y5) ∧ w'.cell? ⟨b2, o2 + i * 5 + 4, none⟩ = some (.slice y6 y7 y8)) (first | exact HSW.out _ (Aside.of (Below.refl _ _).drew) | exact HSW.out _ HA7.out) (first | (go_at_call 40; refine HCW.out.mono ?_; rintro e w7 ⟨⟨u, rfl⟩, hf7, ha7⟩; have HF7 := Lib.hid hf7; have HA7 : Hid (Aside X Y wr w7) := Lib.hid ⟨ha7.os, ha7.tape, ha7.output, ha7.size, ha7.block⟩; clear hf7 ha7))
            go_wp2_with fail
            refine ⟨⟨i + 1, _, ⟨by omega, by omega⟩, by go_num, HF7.out, HAS.out.trans HA7.out, ?_⟩, by simp [intOf]; omega⟩
            show _ = _
            rw [H.out, infL_at ns lrp lra i hlt1 hlt2]
          · have HE := Lib.hid (show infL ns lrp lra f1 = fi by rw [H.out]; exact infL_end ns lrp lra i (by omega) fi)
            clear H
            obtain hc | ⟨hc, hd⟩ : ¬ i < lrp.length ∨ (i < lrp.length ∧ ¬ i < lra.length) := by omega
            all_goals
              go_wp2_with fail
              go_end0
              refine ⟨⟨_, rfl⟩, ?_, (Aside.of HB3.out).trans HAS.out⟩
              rw [HE1.out, HE.out]
              exact HFO.out
end Go.Proofs.Ytcelpmojhjnggaa
