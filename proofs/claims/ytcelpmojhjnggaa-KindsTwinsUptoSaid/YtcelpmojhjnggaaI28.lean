/- The document's Methods: fields in memory of their own, that can be spoilt. -/
import Derived.Test.YtcelpmojhjnggaaI27
import Derived.Deep.Cut
import Derived.Deep.DeepCutAuto
import Derived.Deep.RegionHeld3
import Derived.BigRegion
namespace Go.Proofs.Ytcelpmojhjnggaa
open Go Go.RowKit Go.Sort Go.Deep KindsP
set_option maxHeartbeats 4000000
set_option maxRecDepth 100000

/-- fields in a row of one's own, their types in blocks of one's own other than the row's -/
def OwnFI (w : World) (d B : Nat) (u : Value) (l : List Fld) : Prop := ∃ cells, w.ownsRow B 52 6 u l.length cells ∧ CellsR (LiesFI (fun b => B ≤ b ∧ u.ownBlock ≠ some b ∧ Thawed w b) w d) cells l
theorem OwnFI.base {w : World} {d B B' : Nat} {u : Value} {l : List Fld} (h : OwnFI w d B u l) (hB : B' ≤ B) : OwnFI w d B' u l := by
  obtain ⟨cells, ⟨h1, h2⟩, h3⟩ := h
  refine ⟨cells, ⟨h1, ?_⟩, h3.mono (fun _ _ h => h.kept (fun b hb _ => ⟨⟨Nat.le_trans hB hb.1, hb.2⟩, rfl⟩))⟩
  rcases h2 with h2 | ⟨g, cap, cur, e1, e2, e3⟩
  · exact .inl h2
  · exact .inr ⟨g, cap, cur, e1, Nat.le_trans hB e2, e3⟩
theorem OwnFI.rowG {w : World} {d B : Nat} {u : Value} {l : List Fld} (h : OwnFI w d B u l) : RowG 6 (LiesFI (fun b => B ≤ b) w d) w u l := by
  obtain ⟨cells, h1, h2⟩ := h
  exact CellsR.rowG h1 (h2.mono (fun _ _ h => h.kept (fun b hb _ => ⟨hb.1, rfl⟩)))
theorem OwnFI.nil (w : World) (d B : Nat) : OwnFI w d B (.slice none 0 0) [] := ⟨[], World.ownsRow_nil _ _ _ _, fun k x h => by simp at h⟩
theorem each57f_any (d : Nat) (w : World) (v : Value) (l : List Fld) (h : RowG 6 (LiesF w d) w v l) (hll : l.length ≤ 1000000) (hsz : ∀ x ∈ l, sizT x.ty ≤ 1000000000) :
    Calls Try.prog 57 #[v, fM2] w fun e w' => ∃ u, e = .returned u ∧ OwnFI w' d w.heap.size u l ∧ Below w.heap.size w w' := by
  obtain ⟨a, c, rfl, hc, hcm, hf⟩ := h.form
  have HA := Lib.hid h
  have HSI := Lib.hid hsz
  obtain ⟨i9, hi9, hz90, hz91, hz92⟩ := info_parts Try.info52'
  clear h hsz
  go_enter Try.func57, Try.ntmps57
  go_wp2_with fail
  go_loopw [5, 10] (fun ov iv wr => ∃ (k : Nat) (cells : List Value), k ≤ l.length ∧ iv = .int .i64 k ∧ wr.ownsRow w.heap.size 52 6 ov k cells ∧ CellsR (LiesFI (fun b => w.heap.size ≤ b ∧ b < wr.heap.size ∧ ov.ownBlock ≠ some b ∧ Thawed wr b) wr d) cells (l.take k) ∧ Below w.heap.size w wr) (fun _ iv _ => l.length - (intOf iv).toNat)
  case atStart => exact ⟨0, [], by omega, rfl, World.ownsRow_nil _ _ _ _, fun k x hx => by simp at hx, Below.refl _ _⟩
  case round =>
    obtain ⟨k, cells, hk, rfl, hown, hvs, hb⟩ := hrel
    obtain ⟨ao, cap, rfl⟩ := own_shape hown
    have HB := Lib.hid hb
    have HO := Lib.hid hown
    have HV := Lib.hid hvs
    have hsz := hb.size
    clear hb hown hvs
    by_cases hlt : k < l.length
    · obtain ⟨b, o, rfl⟩ := hf (by omega)
      obtain ⟨cs, ⟨z0, z1, z2, z3, z4, rfl, hty⟩, hcs⟩ := HA.out.get k l[k] (by simp)
      have HST := Lib.hid (HSI.out l[k] (List.getElem_mem hlt))
      have HT := Lib.hid (show l.take (k + 1) = l.take k ++ [l[k]] by rw [List.take_add_one, List.getElem?_eq_getElem hlt]; rfl)
      obtain ⟨x, hx⟩ : ∃ x, l[k] = x := ⟨_, rfl⟩
      rw [hx] at hty hcs HST HT
      obtain ⟨fn, t⟩ := x
      dsimp only at hty hcs HST
      obtain ⟨q0, q1, q2, q3, q4, q5, q6, q7, q8, rfl, rfl, rfl, rfl, rfl⟩ := lies_form hty
      have HL := Lib.hid (fun w' (hb : Below wr.heap.size wr w') => Lies.below (HB.out.trans (hb.mono hsz)) _ _ _ hty)
      have f0 := cell_on HB.out (hcs 0 _ rfl)
      rw [Nat.add_zero] at f0
      have f1 := cell_on HB.out (hcs 1 _ rfl)
      have f2 := cell_on HB.out (hcs 2 _ rfl)
      have f3 := cell_on HB.out (hcs 3 _ rfl)
      have f4 := cell_on HB.out (hcs 4 _ rfl)
      have f5 := cell_on HB.out (hcs 5 _ rfl)
      clear hty hcs hx
      go_wp2_with (first | (go_at_call 58; refine (clo58f_any d _ fn q0 q1 q2 q3 q4 q5 q6 q7 q8 t (HL.out _ ((Below.refl _ _).alloc (Nat.le_refl _) _)) HST.out).mono ?_; rintro e w2 ⟨⟨y0, y1, y2, y3, y4, y5, y6, y7, y8, rfl, hlu⟩, hb2⟩; obtain ⟨-, hb3⟩ := alloc_known hb2; have HU := Lib.hid hlu; have HB2 := Lib.hid hb3; have hsz2 := hb3.size; clear hb2 hb3 hlu) | (at_builtin; refine wpList_append_lies _ rfl (.tmp 14) (.tmp 18) 39 rfl w.heap.size 52 i9 _ 6 104 Try.underlying39 hi9 hz90 hz91 hz92 rfl (by decide) _ k _ rfl ((own_below HO.out HB2.out).alloc _) ⟨w2.heap.size, 0, none⟩ 1 1 [.string fn, .int .i64 y0, .string y1, .string y2, .slice y3 y4 y5, .slice y6 y7 y8] rfl rfl (World.news_of_block (cs := #[.string fn, .int .i64 y0, .string y1, .string y2, .slice y3 y4 y5, .slice y6 y7 y8]) (t := 52) (fr := (0, 0)) (heap_alloc_new w2 _)) (by simp [Value.oneCell']) (by omega) (by unfold maxLen; omega) (by omega) (by simp; omega) (w2.heap.size + 1) (by simp) ?_; intro gg cp w3 hown3 hgrow hat hlt3; have HG : Hid ((w2.alloc (.cells #[.string fn, .int .i64 y0, .string y1, .string y2, .slice y3 y4 y5, .slice y6 y7 y8] 52)).grownBy w3 (Value.slice ao k cap).ownBlock) := hgrow; have HW3 := Lib.hid hown3; have HAT : Hid ((Value.slice ao k cap).ownBlock = some gg ∨ gg = w2.heap.size + 1) := hat; clear hown3 hgrow hat))
      have hbw : Below w.heap.size w w3 := ((HB.out.trans (HB2.out.mono hsz)).alloc (by omega) _).grown HG.out (by simp; omega) (fun g hg => (HO.out.lt g hg).1)
      have hgo := fun g hg => HO.out.lt g hg
      have hat := HAT.out
      have hold : ∀ b, (w.heap.size ≤ b ∧ b < wr.heap.size ∧ (Value.slice ao k cap).ownBlock ≠ some b ∧ Thawed wr b) → b < wr.heap.size → (w.heap.size ≤ b ∧ b < w3.heap.size ∧ (Value.slice (some ⟨gg, 0, none⟩) (k + 1) cp).ownBlock ≠ some b ∧ Thawed w3 b) ∧ w3.heap[b]? = wr.heap[b]? := by
        intro b hb hlt
        obtain ⟨h1, h2, h3, h4⟩ := hb
        have e1 : w2.heap[b]? = wr.heap[b]? := HB2.out.block b hlt
        have e2 := heap_alloc_old w2 (.cells #[.string fn, .int .i64 y0, .string y1, .string y2, .slice y3 y4 y5, .slice y6 y7 y8] 52) (r := b) (by omega)
        have e3 := HG.out.block b (by simp; omega) (Ne.symm h3)
        have hs3 := HG.out.size
        simp at hs3
        refine ⟨⟨h1, by omega, ?_, h4.same (e3.trans (e2.trans e1))⟩, e3.trans (e2.trans e1)⟩
        rcases hat with h | h
        · intro e; apply h3; rw [h]; exact e
        · intro e; have : gg = b := by simpa [Value.ownBlock] using e
          omega
      have hnew : ∀ b, (wr.alloc (.cells #[.string fn, .int .i64 q0, .string q1, .string q2, .slice q3 q4 q5, .slice q6 q7 q8] 52)).heap.size ≤ b ∧ Thawed w2 b → b < w2.heap.size → (w.heap.size ≤ b ∧ b < w3.heap.size ∧ (Value.slice (some ⟨gg, 0, none⟩) (k + 1) cp).ownBlock ≠ some b ∧ Thawed w3 b) ∧ w3.heap[b]? = w2.heap[b]? := by
        intro b hb' hlt
        obtain ⟨hb, h4⟩ := hb'
        simp at hb
        have hne : ∀ g, (Value.slice ao k cap).ownBlock = some g → g ≠ b := fun g hg => by have := (hgo g hg).2; omega
        have e2 := heap_alloc_old w2 (.cells #[.string fn, .int .i64 y0, .string y1, .string y2, .slice y3 y4 y5, .slice y6 y7 y8] 52) (r := b) hlt
        have e3 := HG.out.block b (by simp; omega) (fun e => hne b e.symm rfl)
        have hs3 := HG.out.size
        simp at hs3
        refine ⟨⟨by omega, by omega, ?_, h4.same (e3.trans e2)⟩, e3.trans e2⟩
        intro e
        have : gg = b := by simpa [Value.ownBlock] using e
        rcases hat with h | h
        · exact hne gg h this
        · omega
      refine ⟨⟨k + 1, _, by omega, by go_num, HW3.out, ?_, hbw⟩, by simp [intOf]; omega⟩
      rw [HT.out]
      exact (HV.out.mono (fun _ _ h => h.kept hold)).snoc (by rw [HO.out.1, List.length_take]; congr 1; omega) _ _ _ _ _ _ ⟨fn, t⟩ ⟨_, _, _, _, _, rfl, HU.out.kept hnew⟩
    · have hkl : k = l.length := by omega
      go_wp2_with fail
      go_ret
      refine ⟨_, rfl, ?_, HB.out⟩
      subst hkl
      have := HV.out
      rw [List.take_length] at this
      exact ⟨_, HO.out, this.mono (fun _ _ h => h.kept (fun b h1 _ => ⟨⟨h1.1, h1.2.2.1, h1.2.2.2⟩, rfl⟩))⟩
end Go.Proofs.Ytcelpmojhjnggaa

/- The document's Methods. -/
namespace Go.Proofs.Ytcelpmojhjnggaa
open Go Go.RowKit Go.Sort Go.Deep KindsP
set_option maxHeartbeats 4000000
set_option maxRecDepth 100000

theorem insAll_mem (lt : Fld → Fld → Bool) : ∀ (l s : List Fld) (z : Fld), z ∈ insAll lt s l ↔ z ∈ s ∨ z ∈ l
  | [], s, z => by rw [insAll]; simp
  | x :: l, s, z => by
    rw [insAll, insAll_mem lt l, mem_mrg]
    simp only [List.mem_cons, List.not_mem_nil, or_false]
    constructor
    · rintro ((h | h) | h) <;> simp [h]
    · rintro (h | h | h) <;> simp [h]
theorem isort_mem {l : List Fld} {z : Fld} : z ∈ isort ltF l ↔ z ∈ l := by unfold isort; rw [insAll_mem]; simp
theorem FRow.rowG {w0 w : World} {d g c : Nat} {l : List Fld} (h : FRow w0 d w g l) (hc : l.length ≤ c) (hcm : c ≤ maxLen) : RowG 6 (LiesF w0 d) w (.slice (some ⟨g, 0, none⟩) l.length c) l := by
  obtain ⟨_, cs, h1, h2⟩ := h
  refine ⟨_, c, rfl, hc, hcm, .inr ⟨g, 0, rfl, fun k x hk => ?_⟩⟩
  obtain ⟨c0, c1, c2, c3, c4, c5, e0, e1, e2, e3, e4, e5, hl⟩ := h2 k x hk
  have key : ∀ (i : Nat) (u : Value), cs[i]? = some u → w.cell? ⟨g, i, none⟩ = some u := fun i u hu => by simp [World.cell?, h1, hu]
  refine ⟨_, hl, fun j u hu => ?_⟩
  rw [Nat.zero_add]
  match j, hu with
  | 0, hu => simp at hu; subst hu; exact key _ _ e0
  | 1, hu => simp at hu; subst hu; exact key _ _ e1
  | 2, hu => simp at hu; subst hu; exact key _ _ e2
  | 3, hu => simp at hu; subst hu; exact key _ _ e3
  | 4, hu => simp at hu; subst hu; exact key _ _ e4
  | 5, hu => simp at hu; subst hu; exact key _ _ e5
  | j + 6, hu => simp at hu
theorem Aside.belowOf {g B : Nat} {w w' : World} (h : Aside g g w w') (hg : B ≤ g) (hB : B ≤ w.heap.size) : Below B w w' := ⟨h.os, h.tape, h.output, h.size, fun k hk => h.block k (by omega) (by omega) (by omega)⟩
theorem ins76_nil (w : World) : Calls Try.prog 76 #[.slice none 0 0, .int .i64 0, .int .i64 0, fCmp] w fun e w' => (∃ u, e = .returned u) ∧ w' = w := by
  go_enter Try.func76, Try.ntmps76
  go_wp2_with fail
  go_loopw [8] (fun iv wr => iv = .int .i64 1 ∧ wr = w) (fun _ _ => 0)
  case atStart => exact ⟨rfl, rfl⟩
  case round =>
    obtain ⟨rfl, rfl⟩ := hrel
    go_wp2_with fail
    go_end0
    exact ⟨⟨_, rfl⟩, rfl⟩
theorem stable70_nil (w : World) : Calls Try.prog 70 #[.slice none 0 0, .int .i64 0, fCmp] w fun e w' => (∃ u, e = .returned u) ∧ w' = w := by
  go_enter Try.func70, Try.ntmps70
  go_wp2_with fail
  go_loopw [7, 8] (fun av bv wr => av = .int .i64 0 ∧ bv = .int .i64 20 ∧ Hid (wr = w)) (fun _ _ _ => 0)
  case atStart => exact ⟨rfl, rfl, Lib.hid rfl⟩
  case round =>
    obtain ⟨rfl, rfl, HW⟩ := hrel
    have HC := Lib.hid (ins76_nil wr)
    go_wp2_with (first | (go_at_call 76; refine HC.out.mono ?_; rintro e w5 ⟨⟨u, rfl⟩, hw5⟩; have HW5 := Lib.hid (hw5.trans HW.out); clear hw5))
    go_loopw [6] (fun sv wx => sv = .int .i64 20 ∧ Hid (wx = w)) (fun _ _ => 0)
    case atStart => exact ⟨rfl, HW5⟩
    case round =>
      obtain ⟨rfl, HX⟩ := hrel
      go_wp2_with fail
      go_end0
      exact ⟨⟨_, rfl⟩, HX.out⟩
theorem sort54_nil (w : World) : Calls Try.prog 54 #[.slice none 0 0, fCmp] w fun e w' => (∃ u, e = .returned u) ∧ w' = w := by
  have HC := Lib.hid (stable70_nil w)
  go_enter Try.func54, Try.ntmps54
  go_wp2_with (first | (go_at_call 70; refine HC.out.mono ?_; rintro e w5 ⟨⟨u, rfl⟩, hw5⟩; obtain rfl := hw5.symm))
  go_end0
  exact ⟨⟨_, rfl⟩, rfl⟩
/-- any row of one's own is put in order -/
theorem sortOwn_any (d : Nat) (w0 w : World) (B : Nat) (v : Value) (l : List Fld) (hB0 : w0.heap.size ≤ B) (hBw : B ≤ w.heap.size) (hn : l.length ≤ 1000000) (ho : OwnF w0 d w B v l) :
    Calls Try.prog 54 #[v, fCmp] w fun e w' => (∃ u, e = .returned u) ∧ RowG 6 (LiesF w0 d) w' v (isort ltF l) ∧ Below B w w' := by
  obtain ⟨cells, hoc, hcells⟩ := id ho
  obtain ⟨ao, cap, rfl⟩ := own_shape hoc
  cases ao with
  | none =>
    rcases hoc.2 with ⟨h1, h2⟩ | ⟨g, cp, cur, h1, _⟩
    · obtain rfl := List.length_eq_zero_iff.1 h2
      obtain rfl : cap = 0 := by simpa using h1
      refine (sort54_nil w).mono ?_
      rintro e w' ⟨h3, rfl⟩
      exact ⟨h3, RowG.nil _ _ _, Below.refl _ _⟩
    · cases h1
  | some ad =>
    obtain ⟨b, o, sp⟩ := ad
    have hz : o = 0 ∧ sp = none := by
      rcases hoc.2 with ⟨h1, _⟩ | ⟨g, cp, cur, h1, _⟩
      · cases h1
      · simp only [Value.slice.injEq, Option.some.injEq, Addr.mk.injEq] at h1
        exact ⟨h1.1.2.1, h1.1.2.2⟩
    obtain ⟨rfl, rfl⟩ := hz
    obtain ⟨_, hBg, hnc, hcm, hrow, _⟩ := ho.row hB0
    refine (sort54_any d w0 w b l.length cap l rfl hn hrow).mono ?_
    rintro e w' ⟨h3, h4, h5⟩
    refine ⟨h3, ?_, h5.belowOf hBg hBw⟩
    have := h4.rowG (c := cap) (by rw [isort_length]; exact hnc) hcm
    rwa [isort_length] at this
end Go.Proofs.Ytcelpmojhjnggaa

/- The document's Methods. -/
namespace Go.Proofs.Ytcelpmojhjnggaa
open Go Go.RowKit Go.Sort Go.Deep KindsP
set_option maxHeartbeats 4000000
set_option maxRecDepth 100000

/-- what Methods leaves: fields made anew -/
def MethPost (w : World) (d : Nat) (L : List Fld) (e : Ending) (w' : World) : Prop := Below w.heap.size w w' ∧ ∃ u, e = .returned u ∧ RowG 6 (LiesFI (fun b => w.heap.size ≤ b) w' d) w' u L
theorem RowG.fi {ok ok' : Nat → Prop} {w : World} {d : Nat} {v : Value} {l : List Fld} (h : RowG 6 (LiesFI ok w d) w v l) (hk : ∀ b, ok b → ok' b) : RowG 6 (LiesFI ok' w d) w v l := h.mono (fun _ _ h => h.kept (fun b hb _ => ⟨hk b hb, rfl⟩)) (Below.refl _ _)
theorem meth_plain (d : Nat) (w0 w : World) (v vv : Value) (us : List Unt) (k : Int) (p n : ByteArray) (a1 a2 : Option Addr) (n1 c1 n2 c2 : Nat) (bv : Option Addr) (mv ev : Nat) (hvv : vv = .slice bv mv ev) (h : RowG 4 (LiesU w0 d) w0 v us) (hb0 : Below w0.heap.size w0 w) (h5 : ¬ k = 5) (h9 : ¬ k = 9) (hbd : (baseL us k p n).length ≤ 1000000) (hst : ∀ x ∈ baseL us k p n, sizT x.ty ≤ 1000000000) :
    Calls Try.prog 29 #[v, vv, .agg #[.int .i64 k, .string p, .string n, .slice a1 n1 c1, .slice a2 n2 c2]] w (MethPost w (d + 1) (isort ltF (baseL us k p n))) := by
  subst hvv
  have hb1 : Below w.heap.size w (w.alloc (.cells #[.int .i64 k, .string p, .string n, .slice a1 n1 c1, .slice a2 n2 c2] 31)) := (Below.refl _ _).alloc (Nat.le_refl _) _
  have HF := Lib.hid (face_any d w0 (w.alloc (.cells #[.int .i64 k, .string p, .string n, .slice a1 n1 c1, .slice a2 n2 c2] 31)) v us k p n a1 a2 n1 c1 n2 c2 h (hb0.alloc hb0.size _))
  have e5 : (k == 5) = false := by simpa using h5
  have e9 : (k == 9) = false := by simpa using h9
  have HBL := Lib.hid (show baseL us k p n = if faceOk us k p n = true then (faceD us k p n).fields else [] by
    unfold baseL faceOk faceD
    rw [if_neg h5]
    by_cases h8 : k = 8
    · subst h8; simp
    · simp [h8])
  obtain ⟨fl, hfl⟩ : ∃ fl, faceOk us k p n = fl := ⟨_, rfl⟩
  obtain ⟨x, hx⟩ : ∃ x, faceD us k p n = x := ⟨_, rfl⟩
  rw [hfl, hx] at HBL
  have HFL := Lib.hid hfl
  have HXE := Lib.hid hx
  clear hfl hx
  generalize baseL us k p n = L at hbd hst HBL ⊢
  obtain ⟨a, c, rfl, _⟩ := h.form
  have H0 := Lib.hid hb0
  have hw0w := hb0.size
  have HBD := Lib.hid hbd
  have HST := Lib.hid hst
  clear h hb0 hb1 hbd hst h5 h9
  go_enter Try.func29, Try.ntmps29
  go_wp2_with (first | (go_at_call 52; refine HF.out.mono ?_; rintro e w2 ⟨hb2, kd, nm, of, vl, x0, x1, x2, x3, x4, x5, x6, x7, x8, xf, nf, cf, rfl, hl⟩; refine Hid.out ?_))
  refine Lib.hid ?_
  rw [HFL.out]
  rw [HXE.out] at hl
  obtain ⟨hk2, hbw⟩ := alloc_known hb2
  have hsz : w.heap.size < w2.heap.size := (Array.getElem?_eq_some_iff.1 hk2).1
  have HBX := Lib.hid (fun W (hb : Below w2.heap.size w2 W) => (show W.cell? ⟨w.heap.size, 0, none⟩ = some (.int .i64 k) from cell_on hb ((cell_of_row _ _ 0 _ _ _ hk2).trans rfl)))
  obtain ⟨z0, z1, z2, z3, z4, vf, e, _, hfs⟩ := hl
  have hvf : some (Value.slice xf nf cf) = some vf := congrArg (fun l : List Value => l[9]?) e
  obtain rfl := Option.some.inj hvf
  clear e hvf
  have hb3 := hbw.alloc (Nat.le_of_lt hsz) (.cells #[.int .i64 kd, .string nm, .string of, .int .i64 vl, .int .i64 x0, .string x1, .string x2, .slice x3 x4 x5, .slice x6 x7 x8, .slice xf nf cf] 41)
  have H00 := H0.out.trans (hb3.mono hw0w)
  have HB3 := Lib.hid hb3
  have HWW := Lib.hid (show w.heap.size ≤ (w2.alloc (.cells #[.int .i64 kd, .string nm, .string of, .int .i64 vl, .int .i64 x0, .string x1, .string x2, .slice x3 x4 x5, .slice x6 x7 x8, .slice xf nf cf] 41)).heap.size by simp; omega)
  have HW0 := Lib.hid (show w0.heap.size ≤ (w2.alloc (.cells #[.int .i64 kd, .string nm, .string of, .int .i64 vl, .int .i64 x0, .string x1, .string x2, .slice x3 x4 x5, .slice x6 x7 x8, .slice xf nf cf] 41)).heap.size by simp; omega)
  have HX0 := Lib.hid H00
  cases fl with
  | true =>
    rw [if_pos rfl] at HBL
    have HCL := Lib.hid (clone53_any (d + 1) w0 (w2.alloc (.cells #[.int .i64 kd, .string nm, .string of, .int .i64 vl, .int .i64 x0, .string x1, .string x2, .slice x3 x4 x5, .slice x6 x7 x8, .slice xf nf cf] 41)) _ L (by rw [HBL.out]; exact hfs) H00 HBD.out)
    clear hb2 hk2 hbw hfs hb3 H00
    go_wp2_with (first | (go_at_call 53; refine HCL.out.mono ?_; rintro e w4 ⟨hb4, u4, rfl, ho4⟩; have c0 := HBX.out w4 ((Below.refl w2.heap.size w2).alloc (Nat.le_refl _) (.cells #[.int .i64 kd, .string nm, .string of, .int .i64 vl, .int .i64 x0, .string x1, .string x2, .slice x3 x4 x5, .slice x6 x7 x8, .slice xf nf cf] 41) |>.trans (hb4.mono (by simp))); obtain ⟨cl4, hoc4, _⟩ := id ho4; obtain ⟨ao4, cp4, rfl⟩ := own_shape hoc4; have HO4 := Lib.hid ho4; have HB4 := Lib.hid hb4; clear hb4 ho4 hoc4) | (go_at_call 54; refine (sortOwn_any (d + 1) w0 w4 (w2.alloc (.cells #[.int .i64 kd, .string nm, .string of, .int .i64 vl, .int .i64 x0, .string x1, .string x2, .slice x3 x4 x5, .slice x6 x7 x8, .slice xf nf cf] 41)).heap.size _ L HW0.out HB4.out.size HBD.out HO4.out).mono ?_; rintro e w5 ⟨⟨u5, rfl⟩, hr5, hb5⟩; have HR5 := Lib.hid hr5; have HB5 := Lib.hid (HB4.out.trans hb5); clear hr5 hb5) | (go_at_call 57; refine (each57_any (d + 1) w5 _ (isort ltF L) (HR5.out.mono (LiesF.below (HX0.out.trans (HB5.out.mono HW0.out)) (d + 1)) (Below.refl _ _)) (by rw [isort_length]; exact HBD.out) (fun y hy => HST.out y (isort_mem.1 hy))).mono ?_; rintro e w6 ⟨u6, rfl, hr6, hb6⟩; have HR6 := Lib.hid hr6; have HB6 := Lib.hid hb6; clear hr6 hb6))
    go_ret
    exact ⟨(HB3.out.trans (HB5.out.mono HWW.out)).trans (HB6.out.mono (Nat.le_trans HWW.out HB5.out.size)), _, rfl, HR6.out.fi (fun b hb => Nat.le_trans (Nat.le_trans HWW.out HB5.out.size) hb)⟩
  | false =>
    rw [if_neg (by decide)] at HBL
    have c0 := HBX.out (w2.alloc (.cells #[.int .i64 kd, .string nm, .string of, .int .i64 vl, .int .i64 x0, .string x1, .string x2, .slice x3 x4 x5, .slice x6 x7 x8, .slice xf nf cf] 41)) ((Below.refl w2.heap.size w2).alloc (Nat.le_refl _) _)
    have c0' := HBX.out w2 (Below.refl _ _)
    clear hb2 hk2 hbw hfs hb3 H00
    go_wp2_with (first | (go_at_call 54; refine (sortOwn_any (d + 1) w0 (w2.alloc (.cells #[.int .i64 kd, .string nm, .string of, .int .i64 vl, .int .i64 x0, .string x1, .string x2, .slice x3 x4 x5, .slice x6 x7 x8, .slice xf nf cf] 41)) (w2.alloc (.cells #[.int .i64 kd, .string nm, .string of, .int .i64 vl, .int .i64 x0, .string x1, .string x2, .slice x3 x4 x5, .slice x6 x7 x8, .slice xf nf cf] 41)).heap.size _ [] HW0.out (Nat.le_refl _) (by simp) (OwnF.nil _ _ _ _)).mono ?_; rintro e w5 ⟨⟨u5, rfl⟩, hr5, hb5⟩; have HR5 := Lib.hid hr5; have HB5 := Lib.hid hb5; clear hr5 hb5) | (go_at_call 57; refine (each57_any (d + 1) w5 _ (isort ltF []) (HR5.out.mono (LiesF.below (HX0.out.trans (HB5.out.mono HW0.out)) (d + 1)) (Below.refl _ _)) (by rw [isort_length]; simp) (fun y hy => by cases isort_mem.1 hy)).mono ?_; rintro e w6 ⟨u6, rfl, hr6, hb6⟩; have HR6 := Lib.hid hr6; have HB6 := Lib.hid hb6; clear hr6 hb6))
    go_ret
    rw [HBL.out]
    exact ⟨(HB3.out.trans (HB5.out.mono HWW.out)).trans (HB6.out.mono (Nat.le_trans HWW.out HB5.out.size)), _, rfl, HR6.out.fi (fun b hb => Nat.le_trans (Nat.le_trans HWW.out HB5.out.size) hb)⟩
end Go.Proofs.Ytcelpmojhjnggaa
