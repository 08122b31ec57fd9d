/- The document's walk over pairs of types. -/
import Derived.Test.YtcelpmojhjnggaaQ0
import Derived.Deep.Cut
import Derived.Deep.DeepCutAuto
import Derived.Deep.RegionHeld3
namespace Go.Proofs.Ytcelpmojhjnggaa
open Go Go.RowKit Go.Sort Go.Deep KindsP
set_option maxHeartbeats 4000000
set_option maxRecDepth 100000

def WalkPost (X Y D : Nat) (ns : List ByteArray) (f : ByteArray → Option Ty) (w : World) (e : Ending) (w' : World) : Prop := (∃ u, e = .returned u) ∧ Found w' X Y D ns f ∧ Aside X Y w w'
def WalkAt (d : Nat) : Prop := ∀ (w0 w : World) (dd X Y D : Nat) (f : ByteArray → Option Ty) (vn vp va : Value) (ns : List ByteArray) (p a : Ty), NamesIs w0 vn ns → Lies w0 d vp p → Lies w0 dd va a → Below w0.heap.size w0 w → w0.heap.size ≤ X → w0.heap.size ≤ Y → X ≠ Y → Found w X Y D ns f → dd ≤ D → sizT p ≤ 1000000000 → sizT a ≤ 1000000000 →
    Calls Try.prog 40 #[vn, .slice (some ⟨X, 0, none⟩) ns.length ns.length, .slice (some ⟨Y, 0, none⟩) ns.length ns.length, vp, va] w (WalkPost X Y D ns (infT ns p a f) w)
/-- a variable that is one of the names -/
theorem walk7_var (w0 w : World) (dd X Y D : Nat) (f : ByteArray → Option Ty) (an : Option Addr) (cn : Nat) (ns : List ByteArray) (pp np : ByteArray) (kq : Int) (pa na : ByteArray) (ap rp aa ra : Option Addr) (m1 q1 m2 q2 m3 q3 m4 q4 : Nat) (a : Ty) (k : Nat)
    (hn : NamesIs w0 (.slice an ns.length cn) ns) (hla : Lies w0 dd (.agg #[.int .i64 kq, .string pa, .string na, .slice aa m3 q3, .slice ra m4 q4]) a) (hb : Below w0.heap.size w0 w) (hY : w0.heap.size ≤ Y) (hXY : X ≠ Y) (hf : Found w X Y D ns f) (hdd : dd ≤ D) (hsa : sizT a ≤ 1000000000) (hk : Lib.idxOfS ns np = k) :
    Calls Try.prog 40 #[.slice an ns.length cn, .slice (some ⟨X, 0, none⟩) ns.length ns.length, .slice (some ⟨Y, 0, none⟩) ns.length ns.length, .agg #[.int .i64 9, .string pp, .string np, .slice ap m1 q1, .slice rp m2 q2], .agg #[.int .i64 kq, .string pa, .string na, .slice aa m3 q3, .slice ra m4 q4]] w (WalkPost X Y D ns (if (f np).isSome then f else upd f np a) w) := by
  have hb2 := alloc2_below w (.cells #[.int .i64 9, .string pp, .string np, .slice ap m1 q1, .slice rp m2 q2] 31) (.cells #[.int .i64 kq, .string pa, .string na, .slice aa m3 q3, .slice ra m4 q4] 31)
  have HI := Lib.hid (place_any ((w.alloc (.cells #[.int .i64 9, .string pp, .string np, .slice ap m1 q1, .slice rp m2 q2] 31)).alloc (.cells #[.int .i64 kq, .string pa, .string na, .slice aa m3 q3, .slice ra m4 q4] 31)) _ ns (hn.keep (below_keep (hb.trans (hb2.mono hb.size)))) np)
  rw [hk] at HI
  have hF2 := hf.below hb2
  have hkn := (idx_small hk).1
  obtain ⟨hh, hfz⟩ := hf.hs.cell k hkn
  obtain ⟨hh2, hfz2⟩ := hF2.hs.cell k hkn
  have HS := Lib.hid (slot_at (f := f) hk)
  rw [HS.out] at hh hh2
  have lX := hf.ts.lt
  have lY := hf.hs.lt
  have hki : (k : Int) < (ns.length : Int) := by omega
  have hk0 : (0 : Int) ≤ (k : Int) := by omega
  have hnl := hn.1
  obtain ⟨_, _, _, hnl, _⟩ := hnl
  have HK := Lib.hid hk
  have HF := Lib.hid hf
  have HF2 := Lib.hid hF2
  have HB := Lib.hid hb
  have HB2 := Lib.hid hb2
  have HXY := Lib.hid hXY
  have HL := Lib.hid hla
  clear hk hf hF2 hb hb2 hn hXY hla
  cases hs : (f np).isSome
  · rw [hs] at hh hh2
    have lX2 : X < ((w.alloc (.cells #[.int .i64 9, .string pp, .string np, .slice ap m1 q1, .slice rp m2 q2] 31)).alloc (.cells #[.int .i64 kq, .string pa, .string na, .slice aa m3 q3, .slice ra m4 q4] 31)).heap.size := by simp; omega
    go_enter Try.func40, Try.ntmps40
    have hsz1 : (w.setCell ⟨Y, k, none⟩ (.bool true)).heap.size = w.heap.size := by simp
    have HC := Lib.hid (copy7_any dd (((w.setCell ⟨Y, k, none⟩ (.bool true)).alloc (.cells #[.int .i64 9, .string pp, .string np, .slice ap m1 q1, .slice rp m2 q2] 31)).alloc (.cells #[.int .i64 kq, .string pa, .string na, .slice aa m3 q3, .slice ra m4 q4] 31)) _ a (Lies.below (((HB.out.setCell hY _).alloc (by rw [hsz1]; exact HB.out.size) _).alloc (by simp; exact Nat.le_succ_of_le HB.out.size) _) _ _ _ HL.out) hsa)
    have HB1 := Lib.hid (alloc2_below (w.setCell ⟨Y, k, none⟩ (.bool true)) (.cells #[.int .i64 9, .string pp, .string np, .slice ap m1 q1, .slice rp m2 q2] 31) (.cells #[.int .i64 kq, .string pa, .string na, .slice aa m3 q3, .slice ra m4 q4] 31))
    go_wp2_with (first | (go_at_call 41; refine HI.out.mono ?_; rintro e w5 ⟨rfl, hw5⟩; obtain rfl := hw5.symm) | (go_at_call 17; refine HC.out.mono ?_; rintro e w3 ⟨u, rfl, hu, hb3⟩; refine Hid.out ?_))
    refine Lib.hid ?_
    have hb4 := HB1.out.trans (hb3.mono HB1.out.size)
    rw [hsz1] at hb4
    obtain ⟨c0, c1, c2, c3, c4', rfl⟩ := lies_five (LiesIn.lies _ _ _ hu)
    obtain ⟨t0, t1, t2, t3, t4, t5, t6, t7, t8, rfl, rfl, rfl, rfl, rfl⟩ := lies_form (LiesIn.lies _ _ _ hu)
    have hts : TsIs (okS X Y) w3 X ns.length D (fun k => (slot ns f k).getD zTy) := HF.out.ts.keep ((hb4.block X lX).trans (Below.heap_setCell _ _ _ _ HXY.out)) (fun b hb' hlt => (hb4.block b hlt).trans (Below.heap_setCell _ _ _ _ hb'.2))
    obtain ⟨x0, x1, x2, x3, x4, ⟨f0, f1, f2, f3, f4⟩, -⟩ := hts.cell k hkn
    have fz := hts.frozen
    have HU := Lib.hid (hu.kept (ok' := fun b => w.heap.size ≤ b) (w' := w3) (fun b h1 _ => ⟨by simp at h1; omega, rfl⟩))
    have HB4 := Lib.hid hb4
    clear hb3 hb4 hu hts
    go_wp2_with fail
    go_end0
    refine ⟨⟨_, rfl⟩, HF.out.put HXY.out HK.out _ _ _ _ _ a HB4.out (HU.out.le hdd), ?_⟩
    exact ((((((((Aside.refl X Y w).setY k (.bool true)).trans (Aside.of (by rw [hsz1]; exact HB4.out))).setX _ _).setX _ _).setX _ _).setX _ _).setX _ _)
  · rw [hs] at hh hh2
    go_enter Try.func40, Try.ntmps40
    go_wp2_with (first | (go_at_call 41; refine HI.out.mono ?_; rintro e w5 ⟨rfl, hw5⟩; obtain rfl := hw5.symm))
    go_end0
    exact ⟨⟨_, rfl⟩, HF2.out, Aside.of HB2.out⟩
/-- nothing to be found -/
theorem walk7_leaf (w0 w : World) (X Y D : Nat) (f : ByteArray → Option Ty) (an : Option Addr) (cn : Nat) (ns : List ByteArray) (kp : Int) (pp np : ByteArray) (kq : Int) (pa na : ByteArray) (ap rp aa ra : Option Addr) (m1 q1 m2 q2 m3 q3 m4 q4 : Nat)
    (hn : NamesIs w0 (.slice an ns.length cn) ns) (hb : Below w0.heap.size w0 w) (hf : Found w X Y D ns f) (hI : kp = 9 → Lib.idxOfS ns np < 0) (hrc : ¬ (kp = kq ∧ (kp = 6 ∨ kp = 7))) :
    Calls Try.prog 40 #[.slice an ns.length cn, .slice (some ⟨X, 0, none⟩) ns.length ns.length, .slice (some ⟨Y, 0, none⟩) ns.length ns.length, .agg #[.int .i64 kp, .string pp, .string np, .slice ap m1 q1, .slice rp m2 q2], .agg #[.int .i64 kq, .string pa, .string na, .slice aa m3 q3, .slice ra m4 q4]] w (WalkPost X Y D ns f w) := by
  have hb2 := alloc2_below w (.cells #[.int .i64 kp, .string pp, .string np, .slice ap m1 q1, .slice rp m2 q2] 31) (.cells #[.int .i64 kq, .string pa, .string na, .slice aa m3 q3, .slice ra m4 q4] 31)
  have HI := Lib.hid (place_any ((w.alloc (.cells #[.int .i64 kp, .string pp, .string np, .slice ap m1 q1, .slice rp m2 q2] 31)).alloc (.cells #[.int .i64 kq, .string pa, .string na, .slice aa m3 q3, .slice ra m4 q4] 31)) _ ns (hn.keep (below_keep (hb.trans (hb2.mono hb.size)))) np)
  have HF2 := Lib.hid (hf.below hb2)
  have HB2 := Lib.hid hb2
  clear hf hb hb2 hn
  by_cases h9 : kp = 9
  · subst h9
    have hlt := hI rfl
    clear hI hrc
    generalize Lib.idxOfS ns np = I at HI hlt
    have hni : ¬ 0 ≤ I := by omega
    by_cases hq : kq = 9
    · subst hq
      go_enter Try.func40, Try.ntmps40
      go_wp2_with (first | (go_at_call 41; refine HI.out.mono ?_; rintro e w5 ⟨rfl, hw5⟩; obtain rfl := hw5.symm))
      go_end0
      exact ⟨⟨_, rfl⟩, HF2.out, Aside.of HB2.out⟩
    · have hq' : ¬ 9 = kq := fun e => hq e.symm
      have hq2 : ((9 : Int) == kq) = false := by simpa using hq'
      have hq3 : ((9 : Int) != kq) = true := by simpa using hq'
      go_enter Try.func40, Try.ntmps40
      go_wp2_with (first | (go_at_call 41; refine HI.out.mono ?_; rintro e w5 ⟨rfl, hw5⟩; obtain rfl := hw5.symm))
      go_end0
      exact ⟨⟨_, rfl⟩, HF2.out, Aside.of HB2.out⟩
  · clear hI HI
    have h9b : (kp == 9) = false := by simpa using h9
    by_cases hq : kp = kq
    · subst hq
      have h6 : ¬ kp = 6 := fun e => hrc ⟨rfl, .inl e⟩
      have h7 : ¬ kp = 7 := fun e => hrc ⟨rfl, .inr e⟩
      have h6b : (kp != 6) = true := by simpa using h6
      have h7b : (kp != 7) = true := by simpa using h7
      clear hrc
      go_enter Try.func40, Try.ntmps40
      go_wp2_with fail
      go_end0
      exact ⟨⟨_, rfl⟩, HF2.out, Aside.of HB2.out⟩
    · have hqb : (kp == kq) = false := by simpa using hq
      clear hrc
      go_enter Try.func40, Try.ntmps40
      go_wp2_with fail
      go_end0
      exact ⟨⟨_, rfl⟩, HF2.out, Aside.of HB2.out⟩
end Go.Proofs.Ytcelpmojhjnggaa
