/- A row of fields that grows: the document's put. -/
import Derived.Test.YtcelpmojhjnggaaI22
import Derived.Deep.Cut
import Derived.Deep.DeepCutAuto
import Derived.Deep.RegionHeld3
import Derived.BigRegion
import Derived.Deep.AppendLies
import Derived.Deep.QuietTactic
import Derived.BigQuiet
import Derived.Test.YtcelpmojhjnggaaI12
import Derived.Test.YtcelpmojhjnggaaI06
namespace Go.Proofs.Ytcelpmojhjnggaa
open Go Go.RowKit Go.Sort Go.Deep KindsP
set_option maxHeartbeats 4000000
set_option maxRecDepth 100000

theorem Try.info52' : (Try.prog.info? 52).map (fun i => (i.zero, i.size, i.bytes)) = some (some (.agg #[.string ⟨#[]⟩, .int .i64 0, .string ⟨#[]⟩, .string ⟨#[]⟩, .slice none 0 0, .slice none 0 0]), 6, 104) := by kernel_rfl
/-- these cells are these fields -/
def FCells (w0 : World) (d : Nat) (cells : List Value) (l : List Fld) : Prop := ∀ k x, l[k]? = some x → ∃ c0 c1 c2 c3 c4 c5 : Value, cells[k * 6]? = some c0 ∧ cells[k * 6 + 1]? = some c1 ∧ cells[k * 6 + 2]? = some c2 ∧ cells[k * 6 + 3]? = some c3 ∧ cells[k * 6 + 4]? = some c4 ∧ cells[k * 6 + 5]? = some c5 ∧ LiesF w0 d [c0, c1, c2, c3, c4, c5] x
/-- a slice of one's own that holds these fields, whose types lie in the elder world w0 -/
def OwnF (w0 : World) (d : Nat) (w : World) (B : Nat) (v : Value) (l : List Fld) : Prop := ∃ cells, w.ownsRow B 52 6 v l.length cells ∧ FCells w0 d cells l
theorem FCells.snoc {w0 : World} {d : Nat} {cells : List Value} {l : List Fld} (h : FCells w0 d cells l) (hl : cells.length = l.length * 6) (c0 c1 c2 c3 c4 c5 : Value) (x : Fld) (hx : LiesF w0 d [c0, c1, c2, c3, c4, c5] x) : FCells w0 d (cells ++ [c0, c1, c2, c3, c4, c5]) (l ++ [x]) := by
  intro k y hy
  by_cases hk : k < l.length
  · rw [List.getElem?_append_left hk] at hy
    obtain ⟨d0, d1, d2, d3, d4, d5, e0, e1, e2, e3, e4, e5, hf⟩ := h k y hy
    exact ⟨d0, d1, d2, d3, d4, d5, by rw [List.getElem?_append_left (by omega)]; exact e0, by rw [List.getElem?_append_left (by omega)]; exact e1, by rw [List.getElem?_append_left (by omega)]; exact e2, by rw [List.getElem?_append_left (by omega)]; exact e3, by rw [List.getElem?_append_left (by omega)]; exact e4, by rw [List.getElem?_append_left (by omega)]; exact e5, hf⟩
  · have hkl : k = l.length := by
      have := (List.getElem?_eq_some_iff.1 hy).1
      simp at this; omega
    subst hkl
    rw [List.getElem?_append_right (Nat.le_refl _)] at hy
    simp at hy
    subst hy
    refine ⟨c0, c1, c2, c3, c4, c5, ?_, ?_, ?_, ?_, ?_, ?_, hx⟩ <;> (rw [List.getElem?_append_right (by omega)]; simp [hl])
theorem Below.six {w w' : World} {B g : Nat} (h : Below B w w') (hg : B ≤ g) (o : Nat) (t0 t1 t2 t3 t4 t5 : Value) : Below B w (six w' g o t0 t1 t2 t3 t4 t5) := (((((h.setCell (p := ⟨g, o, none⟩) hg _).setCell (p := ⟨g, o + 1, none⟩) hg _).setCell (p := ⟨g, o + 2, none⟩) hg _).setCell (p := ⟨g, o + 3, none⟩) hg _).setCell (p := ⟨g, o + 4, none⟩) hg _).setCell (p := ⟨g, o + 5, none⟩) hg _
/-- block g holds S cells of fields -/
def Sz (w : World) (g S : Nat) : Prop := ∃ cs : Array Value, w.heap[g]? = some (.cells cs 52 (0, 0)) ∧ cs.size = S
theorem Sz.set {w : World} {g S : Nat} (h : Sz w g S) (i : Nat) (v : Value) : Sz (w.setCell ⟨g, i, none⟩ v) g S := by
  obtain ⟨cs, h1, h2⟩ := h
  exact ⟨_, setAt v h1, by simp [h2]⟩
theorem Sz.six {w : World} {g S : Nat} (h : Sz w g S) (o : Nat) (t0 t1 t2 t3 t4 t5 : Value) : Sz (six w g o t0 t1 t2 t3 t4 t5) g S := (((((h.set _ _).set _ _).set _ _).set _ _).set _ _).set _ _
theorem Sz.keep {w w' : World} {g S : Nat} (h : Sz w g S) (hg : w'.heap[g]? = w.heap[g]?) : Sz w' g S := by
  obtain ⟨cs, h1, h2⟩ := h
  exact ⟨cs, hg.trans h1, h2⟩
theorem OwnF.row {w0 w : World} {d B g n c : Nat} {l : List Fld} (h : OwnF w0 d w B (.slice (some ⟨g, 0, none⟩) n c) l) (hB : w0.heap.size ≤ B) : n = l.length ∧ B ≤ g ∧ l.length ≤ c ∧ c ≤ maxLen ∧ FRow w0 d w g l ∧ Sz w g (c * 6) := by
  obtain ⟨cells, ⟨h1, h2⟩, hf⟩ := h
  rcases h2 with ⟨h2, _⟩ | ⟨g', cap, cur, e, hBg, hg, hnc, hcm, hsz, htk⟩
  · cases h2
  · simp only [Value.slice.injEq, Option.some.injEq, Addr.mk.injEq, and_true] at e
    obtain ⟨⟨rfl⟩, rfl, rfl⟩ := e
    refine ⟨rfl, hBg, hnc, hcm, ⟨Nat.le_trans hB hBg, cur, hg, fun k x hk => ?_⟩, ⟨cur, hg, hsz⟩⟩
    obtain ⟨c0, c1, c2, c3, c4, c5, e0, e1, e2, e3, e4, e5, hl⟩ := hf k x hk
    have key : ∀ (i : Nat) (u : Value), cells[i]? = some u → cur[i]? = some u := by
      intro i u hu
      rw [← htk] at hu
      have hi : i < l.length * 6 := by
        have := (List.getElem?_eq_some_iff.1 hu).1
        rw [List.length_take] at this; omega
      rw [List.getElem?_take_of_lt hi, Array.getElem?_toList] at hu
      exact hu
    exact ⟨c0, c1, c2, c3, c4, c5, key _ _ e0, key _ _ e1, key _ _ e2, key _ _ e3, key _ _ e4, key _ _ e5, hl⟩
theorem OwnF.of_row {w0 w : World} {d B g c : Nat} {l : List Fld} (hB : B ≤ g) (hc : l.length ≤ c) (hcm : c ≤ maxLen) (h : FRow w0 d w g l) (hs : Sz w g (c * 6)) : OwnF w0 d w B (.slice (some ⟨g, 0, none⟩) l.length c) l := by
  obtain ⟨_, cs, h1, h2⟩ := h
  obtain ⟨cs', h1', h3⟩ := hs
  rw [h1] at h1'
  simp only [Option.some.injEq, Obj.cells.injEq, and_true] at h1'
  subst h1'
  have hcl : cs.toList.length = c * 6 := by rw [Array.length_toList]; exact h3
  refine ⟨cs.toList.take (l.length * 6), ⟨by rw [List.length_take, hcl]; have := Nat.mul_le_mul_right 6 hc; omega, .inr ⟨g, c, cs, rfl, hB, h1, hc, hcm, h3, rfl⟩⟩, fun k x hk => ?_⟩
  obtain ⟨c0, c1, c2, c3, c4, c5, e0, e1, e2, e3, e4, e5, hl⟩ := h2 k x hk
  have hkl := (List.getElem?_eq_some_iff.1 hk).1
  have key : ∀ (j : Nat) (u : Value), j < l.length * 6 → cs[j]? = some u → (cs.toList.take (l.length * 6))[j]? = some u := by
    intro j u hj hu
    rw [List.getElem?_take_of_lt hj, Array.getElem?_toList]; exact hu
  exact ⟨c0, c1, c2, c3, c4, c5, key _ _ (by omega) e0, key _ _ (by omega) e1, key _ _ (by omega) e2, key _ _ (by omega) e3, key _ _ (by omega) e4, key _ _ (by omega) e5, hl⟩
theorem OwnF.nil (w0 : World) (d : Nat) (w : World) (B : Nat) : OwnF w0 d w B (.slice none 0 0) [] := ⟨[], World.ownsRow_nil _ _ _ _, fun k x h => by simp at h⟩
/-- what one who puts a field leaves -/
def PutPost (w0 : World) (d : Nat) (w : World) (B : Nat) (l : List Fld) (e : Ending) (w' : World) : Prop := Below B w w' ∧ ∃ v, e = .returned v ∧ OwnF w0 d w' B v l
theorem put59_any (d : Nat) (w0 w : World) (B : Nat) (v : Value) (l : List Fld) (f : Fld) (y0 : Int) (y1 y2 : ByteArray) (y3 : Option Addr) (y4 y5 : Nat) (y6 : Option Addr) (y7 y8 : Nat) (hB0 : w0.heap.size ≤ B) (hBw : B ≤ w.heap.size) (hn : l.length ≤ 1000000) (hs : Srt ltF l) (ho : OwnF w0 d w B v l) (hf : LiesF w0 d [.string f.name, .int .i64 y0, .string y1, .string y2, .slice y3 y4 y5, .slice y6 y7 y8] f) :
    Calls Try.prog 59 #[v, .agg #[.string f.name, .int .i64 y0, .string y1, .string y2, .slice y3 y4 y5, .slice y6 y7 y8]] w (PutPost w0 d w B (mrg ltF l [f])) := by
  obtain ⟨i9, hi9, hz90, hz91, hz92⟩ := info_parts Try.info52'
  obtain ⟨cells, hown, hcells⟩ := ho
  have HO := Lib.hid hown
  have HC := Lib.hid hcells
  have HFL := Lib.hid hf
  have HSR := Lib.hid hs
  obtain ⟨n, hnl⟩ : ∃ n, l.length = n := ⟨_, rfl⟩
  rw [hnl] at HO hn
  have HNL := Lib.hid hnl
  obtain ⟨ao, cap, rfl⟩ := own_shape HO.out
  clear hown hcells hf hs hnl
  go_enter Try.func59, Try.ntmps59
  go_wp2_with (first | (at_builtin; refine wpList_append_lies _ rfl (.tmp 7) (.tmp 9) 39 rfl B 52 i9 _ 6 104 Try.underlying39 hi9 hz90 hz91 hz92 rfl (by decide) _ n _ rfl ((own_below HO.out ((Below.refl _ _).alloc (Nat.le_refl _) _)).alloc _) ⟨w.heap.size + 1, 0, none⟩ 1 1 [.string f.name, .int .i64 y0, .string y1, .string y2, .slice y3 y4 y5, .slice y6 y7 y8] rfl rfl (World.news_of_block (cs := #[.string f.name, .int .i64 y0, .string y1, .string y2, .slice y3 y4 y5, .slice y6 y7 y8]) (t := 52) (fr := (0, 0)) (alloc_known2 (w := w) (cs := #[.string f.name, .int .i64 y0, .string y1, .string y2, .slice y3 y4 y5, .slice y6 y7 y8]) (ds := #[.string f.name, .int .i64 y0, .string y1, .string y2, .slice y3 y4 y5, .slice y6 y7 y8]) (t := 52) (u := 52) (fr := (0, 0)) (gr := (0, 0)) (Below.refl _ _)).2.1) (by simp [Value.oneCell']) (by omega) (by unfold maxLen; omega) (by omega) (by simp; omega) (w.heap.size + 1 + 1) (by simp) ?_; intro gg cp w3 hown3 hgrow hat hlt3; have HOW := Lib.hid hown3; have HG : Hid (((w.alloc (.cells #[.string f.name, .int .i64 y0, .string y1, .string y2, .slice y3 y4 y5, .slice y6 y7 y8] 52)).alloc (.cells #[.string f.name, .int .i64 y0, .string y1, .string y2, .slice y3 y4 y5, .slice y6 y7 y8] 52)).grownBy w3 (Value.slice ao n cap).ownBlock) := hgrow; clear hown3 hgrow hat hlt3; refine Hid.out ?_))
  refine Lib.hid ?_
  have HB3 := Lib.hid (show Below B w w3 from (((Below.refl _ _).alloc hBw _).alloc (by simp; omega) _).grown HG.out (by simp; omega) (fun g hg => (HO.out.lt g hg).1))
  have HOF : Hid (OwnF w0 d w3 B (.slice (some ⟨gg, 0, none⟩) (n + 1) cp) (l ++ [f])) := Lib.hid ⟨_, by rw [List.length_append, HNL.out]; exact HOW.out, HC.out.snoc (by rw [HO.out.1, HNL.out]) _ _ _ _ _ _ f HFL.out⟩
  obtain ⟨hne, hBg, hnc, hcm, hrow3, hsz3⟩ := HOF.out.row hB0
  have HNC := Lib.hid (show n + 1 ≤ cp by rw [List.length_append, HNL.out] at hnc; exact hnc)
  have HROW3 := Lib.hid hrow3
  have HSZ3 := Lib.hid hsz3
  have HCM := Lib.hid hcm
  clear hne hnc hrow3 hsz3 hcm HG HOW HOF HC HO
  go_wp2_with fail
  go_loopw [5] (fun iv wr => ∃ (i : Nat) (S1 S2 : List Fld), Hid (S1.length = i) ∧ i ≤ n ∧ Hid (l = S1 ++ S2) ∧ Hid (∀ s ∈ S2, ltF f s = true) ∧ iv = .int .i64 i ∧ Below B w wr ∧ Sz wr gg (cp * 6) ∧ FRow w0 d wr gg (S1 ++ f :: S2)) (fun iv _ => (intOf iv).toNat)
  case atStart => exact ⟨n, l, [], HNL, Nat.le_refl _, Lib.hid (by simp), Lib.hid (by simp), by go_num, HB3.out, HSZ3.out, HROW3.out⟩
  case round =>
    obtain ⟨i, S1, S2, HI, hin, HL, H2, rfl, hb, hsz, hrow⟩ := hrel
    have HB := Lib.hid hb
    have HSZ := Lib.hid hsz
    have HROW := Lib.hid hrow
    have HDONE := Lib.hid (fun (h1 : ∀ s, S1.getLast? = some s → ltF f s = false) => (show mrg ltF l [f] = S1 ++ f :: S2 by rw [HL.out]; exact ins_done S1 S2 f (by rw [← HL.out]; exact HSR.out) H2.out h1))
    have HLN := Lib.hid (show (S1 ++ f :: S2).length = n + 1 by have h1 := HNL.out; rw [HL.out, List.length_append] at h1; rw [List.length_append, List.length_cons]; omega)
    have HEND := Lib.hid (fun (W : World) (hr : FRow w0 d W gg (S1 ++ f :: S2)) (hz : Sz W gg (cp * 6)) => (show OwnF w0 d W B (.slice (some ⟨gg, 0, none⟩) (n + 1) cp) (S1 ++ f :: S2) by rw [← HLN.out]; exact OwnF.of_row hBg (by rw [HLN.out]; exact HNC.out) HCM.out hr hz))
    cases hl : S1.getLast? with
    | none =>
      rw [List.getLast?_eq_none_iff] at hl
      subst hl
      obtain rfl : i = 0 := by have := HI.out; simpa using this.symm
      have HG := Lib.hid (HDONE.out (fun s hs => by cases hs))
      have hdec : decide ((0 : Int) < 0) = false := by simp
      clear hb hsz hrow
      go_upto_region 3 with fail
      go_quiet (fail)
      go_wp2_with fail
      go_ret
      refine ⟨below_drewN HB.out _, _, rfl, ?_⟩
      rw [HG.out]
      exact HEND.out _ (HROW.out.below (below_drewN (Below.refl _ _) _)) (HSZ.out.keep rfl)
    | some s =>
      obtain ⟨S1', rfl⟩ := List.getLast?_eq_some_iff.1 hl
      obtain ⟨p, hp⟩ : ∃ p, S1'.length = p := ⟨_, rfl⟩
      have hip : i = p + 1 := by rw [← HI.out, ← hp]; simp
      have hE : (S1' ++ [s]) ++ f :: S2 = S1' ++ s :: ([] ++ f :: S2) := by simp
      rw [hE] at hrow
      obtain ⟨x0, x1, x2, x3, x4, x5, x6, x7, x8, ⟨f0, f1, f2, f3, f4, f5⟩, hlx⟩ := hrow.cell p s (by rw [← hp]; exact get_mid _ _ _)
      obtain ⟨z0, z1, z2, z3, z4, z5, z6, z7, z8, ⟨g0, g1, g2, g3, g4, g5⟩, hlz⟩ := hrow.cell i f (by rw [hip, ← hp, show S1'.length + 1 = (S1' ++ [s]).length by simp, show S1' ++ s :: ([] ++ f :: S2) = (S1' ++ [s]) ++ f :: S2 by simp]; exact get_mid _ _ _)
      have HSWP := Lib.hid (fun W (hb : Below wr.heap.size wr W) => swap_two (w := W) S1' [] S2 s f p i hp (by simp [hip]) (hrow.below hb) _ _ _ _ _ _ _ _ _ _ _ _ hlx hlz)
      have hgl := hrow.lt
      have fz := hrow.frozen
      have hw1 : IntKind.i64.wrap ((i : Int) - 1) = (p : Int) := by rw [IntWalk.i64_left, IntWalk.wrap64_in _ (by omega)]; omega
      have hw2 : wrap64 ((i : Int) - 1) = (p : Int) := by rw [IntWalk.wrap64_in _ (by omega)]; omega
      have hi0 : (0 : Int) < (i : Int) := by omega
      have hdec : decide ((0 : Int) < (i : Int)) = true := by simpa using hi0
      have hi0n : 0 < i := by omega
      have hdecn : decide (0 < i) = true := by simpa using hi0n
      have hi1 : (i : Int) < (n : Int) + 1 := by omega
      have hp0 : (0 : Int) ≤ (p : Int) := by omega
      have hp1 : (p : Int) < (n : Int) + 1 := by omega
      have hpi : p < i := by omega
      have HPI := Lib.hid hip
      have HPL := Lib.hid hp
      clear hb hsz hrow hE hl hip hp hlx hlz
      cases hfs : ltF f s
      · have HG := Lib.hid (HDONE.out (fun z hz => by rw [List.getLast?_append] at hz; simp at hz; rw [← hz]; exact hfs))
        have hbl : Op.bytesLess f.name.toList s.name.toList = false := hfs
        clear hfs
        go_upto_region 3 with fail
        go_quiet (fail)
        go_wp2_with fail
        go_ret
        refine ⟨below_drewN HB.out _, _, rfl, ?_⟩
        rw [HG.out]
        exact HEND.out _ (HROW.out.below (below_drewN (Below.refl _ _) _)) (HSZ.out.keep rfl)
      · have HLT := Lib.hid hfs
        have hbl : Op.bytesLess f.name.toList s.name.toList = true := hfs
        clear hfs
        go_upto_region 3 with fail
        go_quiet (fail)
        have HB4 := Lib.hid (below_drewN (Below.refl wr.heap.size wr) nq)
        generalize wr.drewN nq = w4 at HB4 ⊢
        have f0 := cell_on HB4.out f0
        have g0 := cell_on HB4.out g0
        have f1 := cell_on HB4.out f1
        have g1 := cell_on HB4.out g1
        have f2 := cell_on HB4.out f2
        have g2 := cell_on HB4.out g2
        have f3 := cell_on HB4.out f3
        have g3 := cell_on HB4.out g3
        have f4 := cell_on HB4.out f4
        have g4 := cell_on HB4.out g4
        have f5 := cell_on HB4.out f5
        have g5 := cell_on HB4.out g5
        have fz := (HROW.out.below HB4.out).frozen
        have hgl4 := Nat.lt_of_lt_of_le hgl HB4.out.size
        go_wp2_with fail
        refine ⟨⟨p, S1', s :: S2, HPL, by omega, Lib.hid (by rw [HL.out]; simp), Lib.hid (fun z hz => ?_), by go_num, ?_, ?_, ?_⟩, by simp [intOf]; omega⟩
        · rcases List.mem_cons.1 hz with rfl | hz
          · exact HLT.out
          · exact H2.out z hz
        · exact (Go.Proofs.Ytcelpmojhjnggaa.Below.six (Go.Proofs.Ytcelpmojhjnggaa.Below.six (HB.out.trans (HB4.out.mono (Nat.le_trans hBw HB.out.size))) hBg _ _ _ _ _ _ _) hBg _ _ _ _ _ _ _).alloc (by simp; have := HB.out.size; have := HB4.out.size; omega) _
        · refine (((HSZ.out.keep (HB4.out.block gg hgl)).six _ _ _ _ _ _ _).six _ _ _ _ _ _ _).keep (Below.heap_alloc _ _ _ (by simp; exact hgl4))
        · have h2 := ((HSWP.out _ HB4.out).2).below ((Below.refl _ _).alloc (Nat.le_refl _) (.cells #[.string f.name, .int .i64 z0, .string z1, .string z2, .slice z3 z4 z5, .slice z6 z7 z8] 52))
          simpa only [List.nil_append] using h2
end Go.Proofs.Ytcelpmojhjnggaa

/- The types of names; interfaces. -/
namespace Go.Proofs.Ytcelpmojhjnggaa
open Go Go.RowKit Go.Sort KindsP
set_option maxHeartbeats 4000000
set_option maxRecDepth 100000

theorem below_set5 {w w' : World} {B b : Nat} (h : Below B w w') (hb : B ≤ b) (v0 v1 v2 v3 v4 : Value) : Below B w (((((w'.setCell ⟨b, 0, none⟩ v0).setCell ⟨b, 1, none⟩ v1).setCell ⟨b, 2, none⟩ v2).setCell ⟨b, 3, none⟩ v3).setCell ⟨b, 4, none⟩ v4) := (((((h.setCell (p := ⟨b, 0, none⟩) hb _).setCell (p := ⟨b, 1, none⟩) hb _).setCell (p := ⟨b, 2, none⟩) hb _).setCell (p := ⟨b, 3, none⟩) hb _).setCell (p := ⟨b, 4, none⟩) hb _)
/-- the first field of a name -/
def findF : List Fld → ByteArray → Option Fld
  | [], _ => none
  | x :: l, n => if (x.name == n) = true then some x else findF l n
theorem findF_at (l : List Fld) (n : ByteArray) (k : Nat) (h : k < l.length) : findF (l.drop k) n = if (l[k].name == n) = true then some l[k] else findF (l.drop (k + 1)) n := by
  rw [List.drop_eq_getElem_cons h, findF]
def tyO : Option Fld → Ty
  | none => zTy0
  | some x => x.ty
def TyPost (w0 w : World) (d : Nat) (t : Ty) (e : Ending) (w' : World) : Prop :=
  Below w.heap.size w w' ∧ ∃ (x0 : Int) (x1 x2 : ByteArray) (x3 : Option Addr) (x4 x5 : Nat) (x6 : Option Addr) (x7 x8 : Nat), e = .returned (.agg #[.int .i64 x0, .string x1, .string x2, .slice x3 x4 x5, .slice x6 x7 x8]) ∧ Lies w0 (d + 1) (.agg #[.int .i64 x0, .string x1, .string x2, .slice x3 x4 x5, .slice x6 x7 x8]) t
theorem fields_some (d : Nat) (w : World) (v : Value) (l : List Fld) (h : RowG 6 (LiesF w d) w v l) : Calls Try.prog 28 #[v] w (SomeBool w) := by
  obtain ⟨a, c, rfl, hcc, hcm, hf⟩ := h.form
  have hll := Nat.le_trans hcc hcm
  unfold maxLen at hll
  have HA := Lib.hid h
  clear h
  go_enter Try.func28, Try.ntmps28
  go_wp2_with fail
  go_loopw [3, 4] (fun nv iv wr => ∃ (k : Nat) (n : Int), k ≤ l.length ∧ iv = .int .i64 k ∧ nv = .int .i64 n ∧ Below w.heap.size w wr) (fun _ iv _ => l.length - (intOf iv).toNat)
  case atStart => exact ⟨0, _, by omega, rfl, rfl, Below.refl _ _⟩
  case round =>
    obtain ⟨k, n, hk, rfl, rfl, hb⟩ := hrel
    have HB := Lib.hid hb
    clear hb
    by_cases hc : k < l.length ∧ n ≤ 400
    · obtain ⟨hlt, hnm⟩ := hc
      obtain ⟨b, o, rfl⟩ := hf (by omega)
      obtain ⟨cs, ⟨z0, z1, z2, z3, z4, rfl, hty⟩, hcs⟩ := HA.out.get k l[k] (by simp)
      have g1 := cell_on HB.out (hcs 1 _ rfl)
      have g2 := cell_on HB.out (hcs 2 _ rfl)
      have g3 := cell_on HB.out (hcs 3 _ rfl)
      have g4 := cell_on HB.out (hcs 4 _ rfl)
      have g5 := cell_on HB.out (hcs 5 _ rfl)
      have HCT := Lib.hid (fun mm => count_some d wr _ _ mm (Lies.below HB.out _ _ _ hty))
      clear hcs hty
      go_wp2_with (first | (go_at_call 37; refine (HCT.out _).mono ?_; rintro e w2 ⟨⟨c1, rfl⟩, hb2⟩; have HB2 := Lib.hid (HB.out.trans (hb2.mono HB.out.size)); clear hb2))
      exact ⟨⟨k + 1, _, by omega, by go_num, rfl, HB2.out⟩, by simp [intOf]; omega⟩
    · obtain hc | ⟨hc, hd⟩ : ¬ k < l.length ∨ (k < l.length ∧ ¬ n ≤ 400) := by omega
      all_goals
        go_wp2_with fail
        go_ret
        exact ⟨⟨_, rfl⟩, HB.out⟩
theorem must_any (d : Nat) (w0 w : World) (v : Value) (l : List Fld) (n : ByteArray) (h : RowG 6 (LiesF w0 d) w0 v l) (hb0 : Below w0.heap.size w0 w) : Calls Try.prog 51 #[v, .string n] w (TyPost w0 w d (tyO (findF l n))) := by
  obtain ⟨a, c, rfl, hcc, hcm, hf⟩ := h.form
  have hll := Nat.le_trans hcc hcm
  unfold maxLen at hll
  have HA := Lib.hid h
  have H0 := Lib.hid hb0
  clear h hb0
  obtain ⟨W1, hQ⟩ : ∃ W1, W1 = w.alloc (.cells #[.int .i64 0, .string ⟨#[]⟩, .string ⟨#[]⟩, .slice none 0 0, .slice none 0 0] 31) := ⟨_, rfl⟩
  have HB1 := Lib.hid (show W1.heap[w.heap.size]? = some (.cells #[.int .i64 0, .string ⟨#[]⟩, .string ⟨#[]⟩, .slice none 0 0, .slice none 0 0] 31) by rw [hQ]; exact heap_alloc_new w _)
  have HW1 := Lib.hid (show Below w.heap.size w W1 by rw [hQ]; exact (Below.refl _ _).alloc (Nat.le_refl _) _)
  have HS1 := Lib.hid (show w.heap.size + 1 ≤ W1.heap.size by rw [hQ]; simp)
  have HBS : Hid (Below (w.heap.size + 1) W1 (w.alloc (.cells #[.int .i64 0, .string ⟨#[]⟩, .string ⟨#[]⟩, .slice none 0 0, .slice none 0 0] 31))) := Lib.hid (by rw [hQ]; exact Below.refl _ _)
  clear hQ
  go_enter Try.func51, Try.ntmps51
  go_wp2_with fail
  go_loopw [9] (fun iv wr => ∃ (k : Nat), k ≤ l.length ∧ iv = .int .i64 k ∧ Below (w.heap.size + 1) W1 wr ∧ Hid (findF l n = findF (l.drop k) n)) (fun iv _ => l.length - (intOf iv).toNat)
  case atStart => exact ⟨0, by omega, rfl, HBS.out, rfl⟩
  case round =>
    obtain ⟨k, hk, rfl, hb, H⟩ := hrel
    have hbox : wr.heap[w.heap.size]? = _ := (hb.block w.heap.size (by omega)).trans HB1.out
    have d0 : wr.cell? ⟨w.heap.size, 0, none⟩ = some (.int .i64 0) := by simp [World.cell?, hbox]
    have d1 : wr.cell? ⟨w.heap.size, 1, none⟩ = some (.string ⟨#[]⟩) := by simp [World.cell?, hbox]
    have d2 : wr.cell? ⟨w.heap.size, 2, none⟩ = some (.string ⟨#[]⟩) := by simp [World.cell?, hbox]
    have d3 : wr.cell? ⟨w.heap.size, 3, none⟩ = some (.slice none 0 0) := by simp [World.cell?, hbox]
    have d4 : wr.cell? ⟨w.heap.size, 4, none⟩ = some (.slice none 0 0) := by simp [World.cell?, hbox]
    have fz : ∀ i, wr.frozen? ⟨w.heap.size, i, none⟩ = false := fun i => by simp [World.frozen?, hbox]
    have hsz : w.heap.size < wr.heap.size := Nat.le_trans HS1.out hb.size
    have HB := Lib.hid hb
    have HW := Lib.hid (HW1.out.trans (hb.mono (by omega)))
    clear hb hbox
    by_cases hlt : k < l.length
    · obtain ⟨b, o, rfl⟩ := hf (by omega)
      obtain ⟨cs, ⟨z0, z1, z2, z3, z4, rfl, hty⟩, hcs⟩ := HA.out.get k l[k] (by simp)
      have HE := Lib.hid (findF_at l n k hlt)
      obtain ⟨x, hx⟩ : ∃ x, l[k] = x := ⟨_, rfl⟩
      rw [hx] at HE hty hcs
      obtain ⟨nm, t⟩ := x
      dsimp only at HE hty hcs
      obtain ⟨x0, x1, x2, x3, x4, x5, x6, x7, x8, rfl, rfl, rfl, rfl, rfl⟩ := lies_form hty
      have HT := Lib.hid hty
      have hb00 := H0.out.trans (HW.out.mono H0.out.size)
      have g0 := cell_on hb00 (hcs 0 _ rfl)
      rw [Nat.add_zero] at g0
      have g1 := cell_on hb00 (hcs 1 _ rfl)
      have g2 := cell_on hb00 (hcs 2 _ rfl)
      have g3 := cell_on hb00 (hcs 3 _ rfl)
      have g4 := cell_on hb00 (hcs 4 _ rfl)
      have g5 := cell_on hb00 (hcs 5 _ rfl)
      clear hcs hty hx hb00
      cases hp : (nm == n)
      · have HR := Lib.hid (show findF l n = findF (l.drop (k + 1)) n by rw [H.out, HE.out, if_neg (by rw [hp]; simp)])
        have hp' : (nm.toList == n.toList) = false := by simpa using list_eq hp
        clear H HE hp
        go_wp2_with fail
        exact ⟨⟨k + 1, by omega, by go_num, HB.out.alloc hsz _, HR⟩, by simp [intOf]; omega⟩
      · have HR := Lib.hid (show findF l n = some ⟨nm, t⟩ by rw [H.out, HE.out, if_pos hp])
        have hp' := list_eq' hp
        clear H HE hp
        go_wp2_with fail
        refine bodyPost_ret (v := .agg #[.int .i64 x0, .string x1, .string x2, .slice x3 x4 x5, .slice x6 x7 x8]) (by simp [results, Try.results51, go_sem, hsz, d0, d1, d2, d3, d4]) rfl ?_
        rw [HR.out]
        have hbf := fun v0 v1 v2 v3 v4 => below_set5 HW.out (Nat.le_refl _) v0 v1 v2 v3 v4
        refine (fun (hz : Below w.heap.size w _) => ⟨hz, _, _, _, _, _, _, _, _, _, rfl, HT.out.le (Nat.le_succ _)⟩) ?_
        exact (hbf _ _ _ _ _).alloc (by simp; omega) _
    · have HR := Lib.hid (show findF l n = none by rw [H.out, List.drop_eq_nil_of_le (by omega), findF])
      clear H
      go_wp2_with fail
      refine bodyPost_ret (v := .agg #[.int .i64 0, .string ⟨#[]⟩, .string ⟨#[]⟩, .slice none 0 0, .slice none 0 0]) (by simp [results, Try.results51, go_sem, d0, d1, d2, d3, d4]) rfl ?_
      rw [HR.out]
      exact ⟨below_set5 HW.out (Nat.le_refl _) _ _ _ _ _, _, _, _, _, _, _, _, _, _, rfl, ⟨_, _, rfl, ⟨none, 0, rfl, by simp, by unfold maxLen; omega, .inl rfl⟩, ⟨none, 0, rfl, by simp, by unfold maxLen; omega, .inl rfl⟩⟩⟩
end Go.Proofs.Ytcelpmojhjnggaa
