/- The document's Infer. -/
import Derived.Test.YtcelpmojhjnggaaQ3
import Derived.Test.YtcelpmojhjnggaaL1
import Derived.Deep.Cut
import Derived.Deep.DeepCutAuto
import Derived.Deep.RegionHeld3
namespace Go.Proofs.Ytcelpmojhjnggaa
open Go Go.RowKit Go.Sort Go.Deep KindsP
set_option maxHeartbeats 4000000
set_option maxRecDepth 100000

theorem Try.info4' : (Try.prog.info? 4).map (fun i => (i.zero, i.size, i.bytes)) = some (some (.bool false), 1, 1) := by kernel_rfl
theorem make31 (w : World) (n : Nat) (hn : n ≤ 1000000) : (Instr.makeSlice 23 (.int .i64 n) (.int .i64 n)).run Try.prog w = .ok (.slice (some ⟨w.heap.size, 0, none⟩) n n) (w.alloc (.cells (madeCells #[.int .i64 0, .string ⟨#[]⟩, .string ⟨#[]⟩, .slice none 0 0, .slice none 0 0] (n * 5)) 31)) := by
  obtain ⟨i9, hi9, hz90, hz91, hz92⟩ := info_parts Try.info31'
  have := run_make (P := Try.prog) w 23 31 i9 _ Try.underlying23 hi9 hz90 .i64 .i64 n n (by omega) (by omega) (by rw [hz92]; omega) (by omega)
  rw [hz91] at this
  exact this
theorem make4 (w : World) (n : Nat) (hn : n ≤ 1000000) : (Instr.makeSlice 62 (.int .i64 n) (.int .i64 n)).run Try.prog w = .ok (.slice (some ⟨w.heap.size, 0, none⟩) n n) (w.alloc (.cells (madeCells #[.bool false] n) 4)) := by
  obtain ⟨i9, hi9, hz90, hz91, hz92⟩ := info_parts Try.info4'
  have := run_make (P := Try.prog) w 62 4 i9 _ Try.underlying62 hi9 hz90 .i64 .i64 n n (by omega) (by omega) (by rw [hz92]; omega) (by omega)
  rw [hz91, show ((n : Int).toNat * 1) = n by omega] at this
  exact this
/-- what the document's Infer hands back -/
def Infer7Post (w : World) (D : Nat) (r : Option (List Ty)) (e : Ending) (w' : World) : Prop :=
  Below w.heap.size w w' ∧ match r with
  | none => e = .returned (.tuple #[.slice none 0 0, .bool false])
  | some ts => ∃ u, e = .returned (.tuple #[u, .bool true]) ∧ RowOf (Lies w' D) w' u ts
theorem TsIs.row {ok : Nat → Prop} {w : World} {X n D : Nat} {g : Nat → Ty} (h : TsIs ok w X n D g) (hn : n ≤ 1000000) (l : List Ty) (hl : l.length = n) (hg : ∀ i x, l[i]? = some x → x = g i) : RowOf (Lies w D) w (.slice (some ⟨X, 0, none⟩) n n) l := by
  subst hl
  refine ⟨_, _, rfl, Nat.le_refl _, by unfold maxLen; omega, .inr ⟨X, 0, rfl, fun i x hx => ?_⟩⟩
  obtain ⟨x0, x1, x2, x3, x4, hf, hl⟩ := h.cell i (List.getElem?_eq_some_iff.1 hx).1
  rw [Nat.zero_add, hg i x hx]
  exact ⟨x0, x1, x2, x3, x4, LiesIn.lies _ _ _ hl, hf⟩
theorem idx_le {ns : List ByteArray} {s : ByteArray} {i : Nat} (hi : i < ns.length) (h : ns.getD i ByteArray.empty = s) : ∃ k : Nat, Lib.idxOfS ns s = k ∧ k ≤ i := by
  have key : ∀ (zs : List ByteArray) (i0 : Nat) (i : Nat), i < zs.length → zs.getD i ByteArray.empty = s → ∃ k : Nat, Lib.idxFromS zs s i0 = (i0 : Int) + k ∧ k ≤ i := by
    intro zs
    induction zs with
    | nil => intro i0 i h; simp at h
    | cons z zs ih =>
      intro i0 i h1 h2
      rw [Lib.idxFromS]
      split
      · exact ⟨0, by omega, by omega⟩
      · next e =>
        cases i with
        | zero => exact absurd (by simpa using h2) e
        | succ i =>
          obtain ⟨k, h3, h4⟩ := ih (i0 + 1) i (by simpa using h1) (by simpa using h2)
          exact ⟨k + 1, by rw [h3]; push_cast; omega, by omega⟩
  obtain ⟨k, h1, h2⟩ := key ns 0 i hi h
  exact ⟨k, by unfold Lib.idxOfS; omega, h2⟩
/-- what stands in the row of types after i rounds -/
def stepG (ns : List ByteArray) (f : ByteArray → Option Ty) (i : Nat) (j : Nat) : Ty := if j < i then (f (ns.getD j ByteArray.empty)).getD zTy else (slot ns f j).getD zTy
theorem stepG_at {ns : List ByteArray} {f : ByteArray → Option Ty} {i k : Nat} {s : ByteArray} (hk : Lib.idxOfS ns s = k) : stepG ns f i k = (f s).getD zTy := by
  unfold stepG
  rw [slot_at hk, (idx_small hk).2]
  split <;> rfl
theorem stepG_zero (ns : List ByteArray) (f : ByteArray → Option Ty) : stepG ns f 0 = fun k => (slot ns f k).getD zTy := by
  funext j; unfold stepG; simp
theorem stepG_succ (ns : List ByteArray) (f : ByteArray → Option Ty) (i : Nat) (t : Ty) (h : f (ns.getD i ByteArray.empty) = some t) : (fun j => if j = i then t else stepG ns f i j) = stepG ns f (i + 1) := by
  funext j
  unfold stepG
  by_cases hj : j = i
  · subst hj; rw [if_pos rfl, if_pos (Nat.lt_succ_self j), h]; rfl
  · by_cases hlt : j < i
    · simp [hj, hlt, show j < i + 1 by omega]
    · simp [hj, hlt, show ¬ j < i + 1 by omega]
theorem pick_get (f : ByteArray → Option Ty) (ns : List ByteArray) (i : Nat) (s : ByteArray) (h : i < ns.length) (hs : ns.getD i ByteArray.empty = s) (pre : List Ty) :
    (f s = none → (pick f (ns.drop i)).map (pre ++ ·) = none) ∧ (∀ t, f s = some t → (Ty.kd t = 4 ∨ Ty.kd t = 0) → (pick f (ns.drop i)).map (pre ++ ·) = none) ∧ (∀ t, f s = some t → ¬ Ty.kd t = 4 → ¬ Ty.kd t = 0 → (pick f (ns.drop i)).map (pre ++ ·) = (pick f (ns.drop (i + 1))).map ((pre ++ [t]) ++ ·)) := by
  have e : ns[i] = s := by rw [← hs]; simp [List.getD, h]
  have hp := pick_at f ns i h
  rw [e] at hp
  refine ⟨fun h1 => ?_, fun t h1 h2 => ?_, fun t h1 h2 h3 => ?_⟩
  · rw [hp, h1]; rfl
  · rw [hp, h1]
    show Option.map _ (if _ then _ else _) = _
    rw [if_pos (by rcases h2 with h2 | h2 <;> rw [h2] <;> rfl)]; rfl
  · rw [hp, h1]
    show Option.map _ (if _ then _ else _) = _
    rw [if_neg (by simp [h2, h3])]
    cases pick f (ns.drop (i + 1)) with
    | none => rfl
    | some x => simp
theorem kd_of {w : World} {d : Nat} {k : Int} {x1 x2 x3 x4 : Value} {t : Ty} (h : Lies w d (.agg #[.int .i64 k, x1, x2, x3, x4]) t) : Ty.kd t = k := by
  obtain ⟨_, k', _, _, _, _, _, _, _, _, _, _, _, rfl, h0, _⟩ := lies_at h
  cases h0; rfl

theorem infer7_x (w : World) (d dd : Nat) (an ap aa : Option Addr) (cn cp ca : Nat) (ns : List ByteArray) (ps l : List Ty) (hn : NamesIs w (.slice an ns.length cn) ns) (hp : RowOf (Lies w d) w (.slice ap ps.length cp) ps) (ha : RowOf (Lies w dd) w (.slice aa l.length ca) l) (hsz : sizL ps ≤ 1000000000) (hsl : sizL l ≤ 1000000000) (hnl : ns.length ≤ 1000000) :
    Calls Try.prog 15 #[.slice an ns.length cn, .slice ap ps.length cp, .slice aa l.length ca] w (Infer7Post w (dd + 1) (inferT ns ps l)) := by
  have HSM := Lib.hid (infL_small ns 1000000000 ps l noTys hsl (fun n t h => by cases h))
  have HI0 := Lib.hid (show inferT ns ps l = pick (infL ns ps l noTys) ns from rfl)
  have HG0 := Lib.hid (show infL ns ps l noTys = infL ns ps l noTys from rfl)
  generalize inferT ns ps l = R at HI0 ⊢
  have hb2 := alloc2_below w (.cells (madeCells #[.int .i64 0, .string ⟨#[]⟩, .string ⟨#[]⟩, .slice none 0 0, .slice none 0 0] (ns.length * 5)) 31) (.cells (madeCells #[.bool false] ns.length) 4)
  have hk2 := alloc_known2 (w := w) (cs := madeCells #[.int .i64 0, .string ⟨#[]⟩, .string ⟨#[]⟩, .slice none 0 0, .slice none 0 0] (ns.length * 5)) (ds := madeCells #[.bool false] ns.length) (t := 31) (u := 4) (fr := (0, 0)) (gr := (0, 0)) (Below.refl _ _)
  have HF2 := Lib.hid (Found.new (D := dd + 1) (ns := ns) (by omega) hk2.1 hk2.2.1)
  have HSZ : Hid (w.heap.size ≤ ((w.alloc (.cells (madeCells #[.int .i64 0, .string ⟨#[]⟩, .string ⟨#[]⟩, .slice none 0 0, .slice none 0 0] (ns.length * 5)) 31)).alloc (.cells (madeCells #[.bool false] ns.length) 4)).heap.size) := Lib.hid hb2.size
  have HB2 := Lib.hid hb2
  have HN := Lib.hid hn
  have HP := Lib.hid hp
  have HA := Lib.hid ha
  obtain ⟨_, _, e1, hc1, hm1, hpf⟩ := hp.form
  simp only [Value.slice.injEq, true_and] at e1
  obtain ⟨rfl, rfl⟩ := e1
  obtain ⟨_, _, e2, hc2, hm2, haf⟩ := ha.form
  simp only [Value.slice.injEq, true_and] at e2
  obtain ⟨rfl, rfl⟩ := e2
  have z1 := siz_len ps
  have z2 := siz_len l
  have hn2 := hn.1
  obtain ⟨an', cn', e3, _, hn2⟩ := hn2
  simp only [Value.slice.injEq, true_and] at e3
  obtain ⟨rfl, rfl⟩ := e3
  have HN2 := Lib.hid hn2
  clear hn hp ha hb2 hk2 hn2
  have hm31 := fun W => make31 W ns.length hnl
  have hm4 := fun W => make4 W ns.length hnl
  go_enter Try.func15, Try.ntmps15
  go_wp2_with fail
  go_loopw [10] (fun iv wr => ∃ (i : Nat) (fi : ByteArray → Option Ty), (i ≤ ps.length ∧ i ≤ l.length) ∧ iv = .int .i64 i ∧ Found wr w.heap.size (w.heap.size + 1) (dd + 1) ns fi ∧ Aside w.heap.size (w.heap.size + 1) ((w.alloc (.cells (madeCells #[.int .i64 0, .string ⟨#[]⟩, .string ⟨#[]⟩, .slice none 0 0, .slice none 0 0] (ns.length * 5)) 31)).alloc (.cells (madeCells #[.bool false] ns.length) 4)) wr ∧ Hid (infL ns ps l noTys = infL ns (ps.drop i) (l.drop i) fi)) (fun iv _ => ps.length - (intOf iv).toNat)
  case atStart => exact ⟨0, noTys, ⟨by omega, by omega⟩, rfl, HF2.out, Aside.refl _ _ _, rfl⟩
  case round =>
    obtain ⟨i, fi, ⟨hi1, hi2⟩, rfl, hfo, has, H⟩ := hrel
    have HFO := Lib.hid hfo
    have HAS := Lib.hid has
    have HB0 := Lib.hid (has.below HB2.out HSZ.out (Nat.le_refl _) (Nat.le_succ _))
    have hlt := ()
    clear hfo has
    by_cases hlt : i < ps.length ∧ i < l.length
    · obtain ⟨hlt1, hlt2⟩ := hlt
      obtain ⟨b1, o1, rfl⟩ := hpf (by omega)
      obtain ⟨b2, o2, rfl⟩ := haf (by omega)
      obtain ⟨z0, z1, z2, z3, z4, hlx, hfx⟩ := HP.out.get i ps[i] (by simp)
      obtain ⟨z5, z6, z7, z8, z9, hly, hfy⟩ := HA.out.get i l[i] (by simp)
      have HCW := Lib.hid (walk7_any d w wr.drew dd w.heap.size (w.heap.size + 1) (dd + 1) fi (.slice an ns.length cn) _ _ ns ps[i] l[i] HN.out hlx hly HB0.out.drew (Nat.le_refl _) (Nat.le_succ _) (by omega) (HFO.out.below (Below.refl _ _).drew) (by omega) (by have := siz_get ps i hlt1; omega) (by have := siz_get l i hlt2; omega))
      obtain ⟨x0, x1, x2, x3, x4, x5, x6, x7, x8, rfl, rfl, rfl, rfl, rfl⟩ := lies_form hlx
      obtain ⟨y0, y1, y2, y3, y4, y5, y6, y7, y8, rfl, rfl, rfl, rfl, rfl⟩ := lies_form hly
      have lb1 := World.block_lt_of_cell? w _ hfx.c0
      have lb2 := World.block_lt_of_cell? w _ hfy.c0
      have e1 : (b1 ≠ w.heap.size ∧ b1 ≠ (w.heap.size + 1)) ∧ (b2 ≠ w.heap.size ∧ b2 ≠ (w.heap.size + 1)) := by
        have l1 : b1 < w.heap.size := lb1
        have l2 : b2 < w.heap.size := lb2
        omega
      obtain ⟨u0, u1, u2, u3, u4⟩ := hfx.below HB0.out
      obtain ⟨v0, v1, v2, v3, v4⟩ := hfy.below HB0.out
      have HSW := Lib.hid (fun (W' : World) (h : Aside w.heap.size (w.heap.size + 1) wr W') => (show W'.cell? ⟨b1, o1 + i * 5, none⟩ = some (.int .i64 x0) ∧ W'.cell? ⟨b1, o1 + i * 5 + 1, none⟩ = some (.string x1) ∧ W'.cell? ⟨b1, o1 + i * 5 + 2, none⟩ = some (.string x2) ∧ W'.cell? ⟨b1, o1 + i * 5 + 3, none⟩ = some (.slice x3 x4 x5) ∧ W'.cell? ⟨b1, o1 + i * 5 + 4, none⟩ = some (.slice x6 x7 x8) ∧ W'.cell? ⟨b2, o2 + i * 5, none⟩ = some (.int .i64 y0) ∧ W'.cell? ⟨b2, o2 + i * 5 + 1, none⟩ = some (.string y1) ∧ W'.cell? ⟨b2, o2 + i * 5 + 2, none⟩ = some (.string y2) ∧ W'.cell? ⟨b2, o2 + i * 5 + 3, none⟩ = some (.slice y3 y4 y5) ∧ W'.cell? ⟨b2, o2 + i * 5 + 4, none⟩ = some (.slice y6 y7 y8) from ⟨h.cell u0 e1.1.1 e1.1.2, h.cell u1 e1.1.1 e1.1.2, h.cell u2 e1.1.1 e1.1.2, h.cell u3 e1.1.1 e1.1.2, h.cell u4 e1.1.1 e1.1.2, h.cell v0 e1.2.1 e1.2.2, h.cell v1 e1.2.1 e1.2.2, h.cell v2 e1.2.1 e1.2.2, h.cell v3 e1.2.1 e1.2.2, h.cell v4 e1.2.1 e1.2.2⟩))
      have i0 : (0 : Int) ≤ (i : Int) := by omega
      have i1 : (i : Int) < (ps.length : Int) := by omega
      have i2 : (i : Int) < (l.length : Int) := by omega
      clear hlx hly hfx hfy lb1 lb2 e1
      go_upto_region 6 with fail
      go_region_held3 (fun w' => w'.cell? ⟨b1, o1 + i * 5, none⟩ = some (.int .i64 x0) ∧ w'.cell? ⟨b1, o1 + i * 5 + 1, none⟩ = some (.string x1) ∧ w'.cell? ⟨b1, o1 + i * 5 + 2, none⟩ = some (.string x2) ∧ w'.cell? ⟨b1, o1 + i * 5 + 3, none⟩ = some (.slice x3 x4 x5) ∧ w'.cell? ⟨b1, o1 + i * 5 + 4, none⟩ = some (.slice x6 x7 x8) ∧ w'.cell? ⟨b2, o2 + i * 5, none⟩ = some (.int .i64 y0) ∧ w'.cell? ⟨b2, o2 + i * 5 + 1, none⟩ = some (.string y1) ∧ w'.cell? ⟨b2, o2 + i * 5 + 2, none⟩ = some (.string y2) ∧ w'.cell? ⟨b2, o2 + i * 5 + 3, none⟩ = some (.slice y3 y4 y5) ∧ w'.cell? ⟨b2, o2 + i * 5 + 4, none⟩ = some (.slice y6 y7 y8)) (first | exact HSW.out _ (Aside.of (Below.refl _ _).drew) | exact HSW.out _ HA7.out) (first | (go_at_call 40; refine HCW.out.mono ?_; rintro e w7 ⟨⟨u, rfl⟩, hf7, ha7⟩; have HF7 := Lib.hid hf7; have HA7 : Hid (Aside w.heap.size (w.heap.size + 1) wr w7) := Lib.hid ⟨ha7.os, ha7.tape, ha7.output, ha7.size, ha7.block⟩; clear hf7 ha7))
      go_wp2_with fail
      refine ⟨⟨i + 1, _, ⟨by omega, by omega⟩, by go_num, HF7.out, HAS.out.trans HA7.out, ?_⟩, by simp [intOf]; omega⟩
      show _ = _
      rw [H.out, infL_at ns ps l i hlt1 hlt2]
    · have HE := Lib.hid (show infL ns ps l noTys = fi by rw [H.out]; exact infL_end ns ps l i (by omega) fi)
      clear H HG0
      obtain hc | ⟨hc, hd⟩ : ¬ i < ps.length ∨ (i < ps.length ∧ ¬ i < l.length) := by omega
      all_goals
        go_wp2_with fail
        obtain ⟨f1, hf1⟩ : ∃ x, x = fi := ⟨_, rfl⟩
        rw [← hf1] at HE HFO
        have HSM1 : Hid (Small 1000000000 f1) := (by have := HSM.out; rwa [HE.out] at this)
        have HI1 : Hid (R = pick f1 ns) := (by have := HI0.out; rwa [HE.out] at this)
        have HFO1 := HFO
        have HB1 := HB0
        clear HE HFO HAS hf1 HB0 hpf haf HP HA hlt hi1 hi2 hc HI0 HSM HF2 HSZ
        go_loopw [11] (fun iv wr => ∃ i : Nat, i ≤ ns.length ∧ iv = .int .i64 i ∧ TsIs (okS w.heap.size (w.heap.size + 1)) wr w.heap.size ns.length (dd + 1) (stepG ns f1 i) ∧ HsIs wr (w.heap.size + 1) ns.length (fun k => (slot ns f1 k).isSome) ∧ Below w.heap.size w wr ∧ Hid (R = (pick f1 (ns.drop i)).map ((ns.take i).map (fun n => (f1 n).getD zTy) ++ ·))) (fun iv _ => ns.length - (intOf iv).toNat)
        case atStart => exact ⟨0, by omega, rfl, by rw [stepG_zero]; exact HFO1.out.ts, HFO1.out.hs, HB1.out, by show _ = _; rw [HI1.out]; simp⟩
        case round =>
          obtain ⟨i, hi, rfl, hts, hhs, hb, H⟩ := hrel
          have HB := Lib.hid hb
          by_cases hlt : i < ns.length
          · obtain ⟨bn, on, rfl, hcell⟩ := HN2.out.resolve_left (by intro e; rw [e] at hlt; simp at hlt)
            have hck := hcell i hlt
            have hbn := World.block_lt_of_cell? w _ hck
            have cN := (hb.cell (p := ⟨bn, on + i, none⟩) hbn).trans hck
            obtain ⟨s, hs⟩ : ∃ s, ns.getD i ByteArray.empty = s := ⟨_, rfl⟩
            rw [hs] at cN
            obtain ⟨k, hk, hki⟩ := idx_le hlt hs
            have hkn := (idx_small hk).1
            have HI := Lib.hid (place_any wr _ ns (HN.out.keep (below_keep hb)) s)
            rw [hk] at HI
            obtain ⟨hh, -⟩ := hhs.cell k hkn
            rw [slot_at hk] at hh
            obtain ⟨x0, x1, x2, x3, x4, ⟨f0, f1', f2, f3, f4⟩, hlx⟩ := hts.cell k hkn
            rw [stepG_at hk] at hlx
            have HPG := Lib.hid (pick_get f1 ns i s hlt hs ((ns.take i).map (fun n => (f1 n).getD zTy)))
            have HTK := Lib.hid (show (ns.take (i + 1)).map (fun n => (f1 n).getD zTy) = (ns.take i).map (fun n => (f1 n).getD zTy) ++ [(f1 s).getD zTy] by rw [List.take_add_one, List.getElem?_eq_getElem hlt, show ns[i] = s by rw [← hs]; simp [List.getD, hlt]]; simp)
            have HTS := Lib.hid hts
            have HHS := Lib.hid hhs
            have HS := Lib.hid hs
            have ki0 : (0 : Int) ≤ (k : Int) := by omega
            have ki1 : (k : Int) < (ns.length : Int) := by omega
            have i0 : (0 : Int) ≤ (i : Int) := by omega
            have i1 : (i : Int) < (ns.length : Int) := by omega
            obtain ⟨q0, q1, q2, q3, q4, q5, q6, q7, q8, rfl, rfl, rfl, rfl, rfl⟩ := lies_form (LiesIn.lies _ _ _ hlx)
            have HLX := Lib.hid hlx
            clear hcell hck hbn hk hki hkn hts hhs hb hs hlx
            cases hf : f1 s with
            | none =>
              rw [hf] at hh
              have HR := Lib.hid (show R = none by rw [H.out]; exact HPG.out.1 hf)
              clear H hf
              go_wp2_with (first | (go_at_call 41; refine HI.out.mono ?_; rintro e w5 ⟨rfl, hw5⟩; obtain rfl := hw5.symm))
              refine bodyPost_ret (v := .tuple #[.slice none 0 0, .bool false]) (by simp [results, Try.results15, go_sem]) rfl ?_
              rw [HR.out]
              exact ⟨HB.out, rfl⟩
            | some t =>
              rw [hf] at hh HLX HTK
              have HKD := Lib.hid (show Ty.kd t = q0 from kd_of (LiesIn.lies _ _ _ HLX.out))
              have HST := Lib.hid (HSM1.out s t hf)
              have HF := Lib.hid hf
              clear hf
              cases e4 : (q0 == 4)
              case true =>
                have HR := Lib.hid (show R = none by rw [H.out]; exact HPG.out.2.1 t HF.out (.inl (HKD.out.trans (eq_of_beq e4))))
                clear H
                go_wp2_with (first | (go_at_call 41; refine HI.out.mono ?_; rintro e w5 ⟨rfl, hw5⟩; obtain rfl := hw5.symm))
                refine bodyPost_ret (v := .tuple #[.slice none 0 0, .bool false]) (by simp [results, Try.results15, go_sem]) rfl ?_
                rw [HR.out]
                exact ⟨HB.out, rfl⟩
              case false =>
                cases e0 : (q0 == 0)
                case true =>
                  have HR := Lib.hid (show R = none by rw [H.out]; exact HPG.out.2.1 t HF.out (.inr (HKD.out.trans (eq_of_beq e0))))
                  clear H
                  go_wp2_with (first | (go_at_call 41; refine HI.out.mono ?_; rintro e w5 ⟨rfl, hw5⟩; obtain rfl := hw5.symm))
                  refine bodyPost_ret (v := .tuple #[.slice none 0 0, .bool false]) (by simp [results, Try.results15, go_sem]) rfl ?_
                  rw [HR.out]
                  exact ⟨HB.out, rfl⟩
                case false =>
                  have HR := Lib.hid (show R = (pick f1 (ns.drop (i + 1))).map ((ns.take (i + 1)).map (fun n => (f1 n).getD zTy) ++ ·) by rw [H.out, HTK.out]; exact HPG.out.2.2 t HF.out (by rw [HKD.out]; exact ne_of_beq_false e4) (by rw [HKD.out]; exact ne_of_beq_false e0))
                  clear H
                  have HC := Lib.hid (copy7_any (dd + 1) wr _ t (LiesIn.lies _ _ _ HLX.out) HST.out)
                  go_wp2_with (first | (go_at_call 41; refine HI.out.mono ?_; rintro e w5 ⟨rfl, hw5⟩; obtain rfl := hw5.symm) | (go_at_call 17; refine HC.out.mono ?_; rintro e w3 ⟨u, rfl, hu, hb3⟩; refine Hid.out ?_))
                  refine Lib.hid ?_
                  obtain ⟨c0, c1, c2, c3, c4', rfl⟩ := lies_five (LiesIn.lies _ _ _ hu)
                  obtain ⟨t0, t1, t2, t3, t4, t5, t6, t7, t8, rfl, rfl, rfl, rfl, rfl⟩ := lies_form (LiesIn.lies _ _ _ hu)
                  have lX := HTS.out.lt
                  have lY := HHS.out.lt
                  have hts3 := HTS.out.keep (hb3.block _ lX) (fun b _ hlt => hb3.block b hlt)
                  have HHS3 := Lib.hid (HHS.out.keep (hb3.block _ lY))
                  obtain ⟨r0, r1, r2, r3, r4, ⟨g0, g1, g2, g3, g4⟩, -⟩ := hts3.cell i hlt
                  have fz := hts3.frozen
                  have HTS3 := Lib.hid hts3
                  have HU := Lib.hid (hu.kept (ok' := okS w.heap.size (w.heap.size + 1)) (w' := w3) (fun b h1 _ => ⟨⟨by omega, by omega⟩, rfl⟩))
                  have HB3 := Lib.hid (HB.out.trans (hb3.mono HB.out.size))
                  clear hu hts3 hb3 f0 f1' f2 f3 f4 hh
                  go_wp2_with fail
                  refine ⟨⟨i + 1, by omega, by go_num, ?_, HHS3.out.keep (five_other w3 w.heap.size (i * 5) _ _ _ _ _ (w.heap.size + 1) (by omega)), ?_, HR⟩, by simp [intOf]; omega⟩
                  · rw [← stepG_succ ns f1 i t (by rw [HS.out]; exact HF.out)]
                    exact HTS3.out.set (fun e => e.1 rfl) i _ _ _ _ _ t HU.out hlt
                  · exact ((((HB3.out.setCell (Nat.le_refl _) _).setCell (Nat.le_refl _) _).setCell (Nat.le_refl _) _).setCell (Nat.le_refl _) _).setCell (Nat.le_refl _) _
          · obtain rfl : i = ns.length := by omega
            have HR := Lib.hid (show R = some (ns.map (fun n => (f1 n).getD zTy)) by rw [H.out, List.drop_length, List.take_length]; simp [pick])
            have HTS := Lib.hid hts
            clear H hts hhs hb
            go_wp2_with fail
            refine bodyPost_ret (v := .tuple #[.slice (some ⟨w.heap.size, 0, none⟩) ns.length ns.length, .bool true]) (by simp [results, Try.results15, go_sem]) rfl ?_
            rw [HR.out]
            refine ⟨HB.out, _, rfl, HTS.out.row hnl _ (by simp) (fun i x hx => ?_)⟩
            rw [List.getElem?_map] at hx
            cases hg : ns[i]? with
            | none => rw [hg] at hx; cases hx
            | some y =>
              rw [hg] at hx
              have hlt := (List.getElem?_eq_some_iff.1 hg).1
              unfold stepG
              rw [if_pos hlt]
              simp only [Option.map_some, Option.some.injEq] at hx
              rw [← hx]
              simp [List.getD, hg]
theorem infer7_any (w : World) (d dd : Nat) (vn vp va : Value) (ns : List ByteArray) (ps l : List Ty) (hn : NamesIs w vn ns) (hp : RowOf (Lies w d) w vp ps) (ha : RowOf (Lies w dd) w va l) (hsz : sizL ps ≤ 1000000000) (hsl : sizL l ≤ 1000000000) (hnl : ns.length ≤ 1000000) :
    Calls Try.prog 15 #[vn, vp, va] w (Infer7Post w (dd + 1) (inferT ns ps l)) := by
  obtain ⟨⟨an, cn, rfl, hn1, hn2⟩, hn3⟩ := id hn
  obtain ⟨ap, cp, rfl, _⟩ := hp.form
  obtain ⟨aa, ca, rfl, _⟩ := ha.form
  exact infer7_x w d dd an ap aa cn cp ca ns ps l hn hp ha hsz hsl hnl
end Go.Proofs.Ytcelpmojhjnggaa
