/- The walk of Do. -/
import Derived.Test.YtihnmhemhcmmoaaB0
import Derived.Laws.AppendOwnNone
import Derived.Lib.SlFresh
namespace Go.Proofs.Ytihnmhemhcmmoaa
open Go Go.RowKit Go.Maps Go.WideMaps Go.Sort
set_option maxHeartbeats 2000000
set_option maxRecDepth 100000

/-- copies done one behind the other -/
def doP : List Mv → List Int → List Int
  | [], l => l
  | m :: ms, l => doP ms (if (0 ≤ m.tc ∧ m.tc < l.length) ∧ (0 ≤ m.frm ∧ m.frm < l.length) then l.set m.tc.toNat (l.getD m.frm.toNat 0) else l)
def IRow (w : World) (v : Value) (l : List Int) : Prop := ∃ a c, v = .slice a l.length c ∧ l.length ≤ c ∧ c ≤ maxLen ∧ (a = none → c = 0) ∧ (l = [] ∨ ∃ b o, a = some ⟨b, o, none⟩ ∧ ∀ (i : Nat) (x : Int), l[i]? = some x → w.cell? ⟨b, o + i, none⟩ = some (.int .i64 x))
theorem IRow.below {w w' : World} {v : Value} {l : List Int} (h : IRow w v l) (hb : Below w.heap.size w w') : IRow w' v l := by
  obtain ⟨a, c, h1, h2, h3, h0, h4⟩ := h
  refine ⟨a, c, h1, h2, h3, h0, ?_⟩
  rcases h4 with h4 | ⟨b, o, h6, h7⟩
  · exact .inl h4
  · exact .inr ⟨b, o, h6, fun i m hm => hb.cell (World.block_lt_of_cell? w _ (h7 i m hm)) |>.trans (h7 i m hm)⟩
theorem IRow.of_own {w : World} {base : Nat} {v : Value} {l : List Int} (h : w.ownsRow base 2 1 v l.length (l.map (Value.int .i64))) : IRow w v l := by
  have hc := fun g hg => h.cells (g := g) hg
  rcases h.2 with ⟨rfl, h0⟩ | ⟨g, cap, cur, rfl, hB, hg, hnc, hcm, _⟩
  · exact ⟨none, 0, by rw [h0], by omega, by unfold maxLen; omega, fun _ => rfl, .inl (List.length_eq_zero_iff.1 h0)⟩
  · refine ⟨_, cap, rfl, hnc, hcm, fun h => (by cases h), .inr ⟨g, 0, rfl, fun i x hx => ?_⟩⟩
    have := hc g rfl i (.int .i64 x) (by simp [hx])
    have e : (⟨g, 0, none⟩ : Addr).add i = ⟨g, i, none⟩ := by cases i <;> simp [Addr.add]
    rw [e] at this
    simpa using this
theorem own_set {w : World} {base g n c : Nat} {l : List Int} (h : w.ownsRow base 2 1 (.slice (some ⟨g, 0, none⟩) n c) n (l.map (Value.int .i64))) (t : Nat) (x : Int) : (w.setCell ⟨g, t, none⟩ (.int .i64 x)).ownsRow base 2 1 (.slice (some ⟨g, 0, none⟩) n c) n ((l.set t x).map (Value.int .i64)) := by
  obtain ⟨h1, h2⟩ := h
  rcases h2 with ⟨h2, _⟩ | ⟨g', cap, cur, e, hB, hg, hnc, hcm, hsz, htk⟩
  · cases h2
  · simp only [Value.slice.injEq, Option.some.injEq, Addr.mk.injEq, and_true] at e
    obtain ⟨⟨rfl⟩, _, rfl⟩ := e
    refine ⟨by simpa using h1, .inr ⟨g, c, _, rfl, hB, setAt _ hg, hnc, hcm, by simpa using hsz, ?_⟩⟩
    rw [Array.toList_setIfInBounds, List.take_set, htk, List.map_set]
theorem info2 : (Try.prog.info? 2).map (fun i => (i.zero, i.size, i.bytes)) = some (some (.int .i64 0), 1, 8) := by kernel_rfl
theorem clo17 (w : World) (ob : Nat) (a : Option Addr) (n c : Nat) (x : Int) (h : w.cell? ⟨ob, 0, none⟩ = some (.slice a n c)) :
    Calls Try.prog 17 #[.int .i64 x, .pointer (some ⟨ob, 0, none⟩)] w fun e w' => e = .returned (.bool (decide (0 ≤ x ∧ x < n))) ∧ w' = w := by
  by_cases h0 : 0 ≤ x
  · by_cases h1 : x < n
    · have hd : decide (0 ≤ x ∧ x < n) = true := by simp [h0, h1]
      rw [hd]
      go_enter Try.func17, Try.ntmps17
      go_wp2_with fail
      go_ret
      exact ⟨rfl, rfl⟩
    · have hd : decide (0 ≤ x ∧ x < n) = false := by simp [h1]
      rw [hd]
      go_enter Try.func17, Try.ntmps17
      go_wp2_with fail
      go_ret
      exact ⟨rfl, rfl⟩
  · have hd : decide (0 ≤ x ∧ x < n) = false := by simp [h0]
    rw [hd]
    go_enter Try.func17, Try.ntmps17
    go_wp2_with fail
    go_ret
    exact ⟨rfl, rfl⟩
theorem add_off (b o j : Nat) : (⟨b, o, none⟩ : Addr).add j = ⟨b, o + j, none⟩ := by
  cases j <;> simp [Addr.add]
theorem copy_run (w0 : World) (vc : Value) (l : List Int) (hl : IRow w0 vc l) (hll : l.length ≤ 1000000) :
    ∃ v' w', (Builtin.append_ #[33, 33] 33 #[.slice (some ⟨w0.heap.size, 0, none⟩) 0 0, vc]).run Try.prog (w0.alloc (.cells #[] 2)) = .ok v' w' ∧ w'.ownsRow w0.heap.size 2 1 v' l.length (l.map (Value.int .i64)) ∧ Below w0.heap.size w0 w' := by
  obtain ⟨a, c, rfl, hc, hcm, hnil, hcell⟩ := hl
  have hrow : (w0.alloc (.cells #[] 2)).ownsRow w0.heap.size 2 1 (.slice (some ⟨w0.heap.size, 0, none⟩) 0 0) 0 [] := World.ownsRow_made w0 #[] 0 (Nat.le_refl _) (by unfold maxLen; omega) rfl
  have hb1 : Below w0.heap.size w0 (w0.alloc (.cells #[] 2)) := (Below.refl _ _).alloc (Nat.le_refl _) _
  obtain ⟨i9, hi9, hz90, hz91, hz92⟩ := info_parts info2
  cases a with
  | none =>
    obtain rfl := hnil rfl
    have h0 : l = [] := List.length_eq_zero_iff.1 (by omega)
    subst h0
    exact ⟨_, _, run_append_owned_none (P := Try.prog) (w0.alloc (.cells #[] 2)) w0.heap.size 33 33 2 i9 1 Try.underlying33 hi9 _ 0 [] hrow, hrow, hb1⟩
  | some ad =>
    have hnews : ∀ j u, (l.map (Value.int .i64))[j]? = some u → (w0.alloc (.cells #[] 2)).cell? (ad.add j) = some u := by
      intro j u hu
      rw [List.getElem?_map] at hu
      cases hx : l[j]? with
      | none => rw [hx] at hu; cases hu
      | some x =>
        rw [hx] at hu
        obtain rfl := Option.some.inj hu
        rcases hcell with h0 | ⟨b, o, e, h7⟩
        · subst h0; simp at hx
        · obtain rfl := Option.some.inj e
          have h8 := h7 j x hx
          rw [add_off]
          exact (hb1.cell (World.block_lt_of_cell? w0 _ h8)).trans h8
    obtain ⟨v', w', h1, h2, h3, _, _⟩ := run_append_own_at (P := Try.prog) (w0.alloc (.cells #[] 2)) w0.heap.size 33 33 2 i9 _ 1 8 Try.underlying33 hi9 hz90 hz91 hz92 rfl (by decide) _ 0 [] hrow ad l.length c (l.map (Value.int .i64)) (by simp) hnews (by intro u hu; simp at hu; obtain ⟨x, _, rfl⟩ := hu; rfl) (by unfold maxLen; omega) (by omega) hb1.size
    refine ⟨v', w', h1, by simpa using h2, hb1.grown h3 hb1.size (fun k hk => ?_)⟩
    have : w0.heap.size = k := by simpa [Value.ownBlock] using hk
    omega
theorem doP_len : ∀ (ms : List Mv) (l : List Int), (doP ms l).length = l.length
  | [], l => rfl
  | m :: ms, l => by
    rw [doP, doP_len]
    split <;> simp
theorem int_cell {w : World} {base n c : Nat} {ag : Option Addr} {l : List Int} (h : w.ownsRow base 2 1 (.slice ag n c) n (l.map (Value.int .i64))) (hn : 0 < n) : ∃ g, ag = some ⟨g, 0, none⟩ ∧ (∀ (j : Nat), j < n → w.cell? ⟨g, j, none⟩ = some (.int .i64 (l.getD j 0))) ∧ (∀ j, w.frozen? ⟨g, j, none⟩ = false) ∧ g < w.heap.size ∧ base ≤ g := by
  have hc := fun g hg => h.cells (g := g) hg
  have hl : l.length = n := by have := h.1; simpa using this
  rcases h.2 with ⟨_, h0⟩ | ⟨g, cap, cur, e, hB, hg, _⟩
  · omega
  · simp only [Value.slice.injEq] at e
    obtain ⟨rfl, _, _⟩ := e
    refine ⟨g, rfl, fun j hj => ?_, fun j => thaw_of hg j, lt_of hg, hB⟩
    have := hc g rfl j (.int .i64 (l.getD j 0)) (by rw [List.getElem?_map, List.getElem?_eq_getElem (by omega)]; simp [List.getD_eq_getElem?_getD, List.getElem?_eq_getElem (show j < l.length by omega)])
    rwa [add_off, Nat.zero_add] at this
theorem do12 (w0 : World) (vm vc : Value) (ms : List Mv) (l : List Int) (hm : MvRow w0 vm ms) (hl : IRow w0 vc l) (hml : ms.length ≤ 1000000) (hll : l.length ≤ 1000000) :
    Calls Try.prog 12 #[vm, vc] w0 fun e w' => ∃ u, e = .returned u ∧ w'.ownsRow w0.heap.size 2 1 u (doP ms l).length ((doP ms l).map (Value.int .i64)) ∧ Below w0.heap.size w0 w' := by
  obtain ⟨⟨a, c, rfl, hc, hcm, hcells⟩, h64⟩ := hm
  obtain ⟨v1, w1, hr1, ho1, hb1⟩ := copy_run w0 vc l hl hll
  obtain ⟨ai, ci, rfl, _⟩ := hl
  obtain ⟨n, hn⟩ : ∃ n, l.length = n := ⟨_, rfl⟩
  obtain ⟨R, hR⟩ : ∃ R, doP ms l = R := ⟨_, rfl⟩
  have hRl : R.length = n := by rw [← hR, doP_len]; exact hn
  rw [hn] at ho1 hr1 hll ⊢
  rw [hR, hRl]
  obtain ⟨ag, cc, rfl⟩ := own_shape ho1
  have HR1 := Lib.hid hr1
  have HO1 := Lib.hid ho1
  have HB1 := Lib.hid hb1
  have HC := Lib.hid hcells
  have H64 := Lib.hid h64
  have HR := Lib.hid hR
  have HN := Lib.hid hn
  obtain ⟨ob, hob⟩ : ∃ ob, w1.heap.size = ob := ⟨_, rfl⟩
  have HOB := Lib.hid hob
  clear hr1 ho1 hb1 hcells h64 hR hn hRl hob
  go_enter Try.func12, Try.ntmps12
  go_wp2_with (first | (at_builtin; refine Lib.wpList_append_run_sl _ rfl _ _ 33 rfl _ _ rfl rfl HR1.out ?_))
  rw [HOB.out]
  go_loopw [15] (fun iv wr => ∃ (j : Nat) (l' : List Int), j ≤ ms.length ∧ iv = .int .i64 j ∧ Hid (Below w0.heap.size w0 wr ∧ wr.heap[ob]? = some (.cells #[.slice ag n cc] 33) ∧ wr.ownsRow w0.heap.size 2 1 (.slice ag n cc) n (l'.map (Value.int .i64)) ∧ doP (ms.drop j) l' = R)) (fun iv _ => ms.length - (intOf iv).toNat)
  case atStart => exact ⟨0, l, by omega, rfl, Lib.hid ⟨HB1.out.alloc HB1.out.size _, by rw [← HOB.out]; exact heap_alloc_new w1 _, HO1.out.alloc _, HR.out⟩⟩
  case round =>
    obtain ⟨j, l', hj, rfl, HR⟩ := hrel
    by_cases hjl : j < ms.length
    · obtain ⟨hbel, hob, hown, hdo⟩ := HR.out
      have hl' : l'.length = n := by have := hown.1; simpa using this
      have hd : ms.drop j = ms[j] :: ms.drop (j + 1) := List.drop_eq_getElem_cons hjl
      obtain ⟨m, hmj⟩ : ∃ m, ms[j] = m := ⟨_, rfl⟩
      rw [hd, hmj, doP, hl'] at hdo
      rcases HC.out with h0 | ⟨bm, om, rfl, hcell⟩
      · rw [h0] at hjl; simp at hjl
      obtain ⟨g0, g1⟩ := hcell j m (by rw [List.getElem?_eq_getElem hjl, hmj])
      have f0 := hbel.cell (World.block_lt_of_cell? w0 _ g0) |>.trans g0
      have f1 := hbel.cell (World.block_lt_of_cell? w0 _ g1) |>.trans g1
      obtain ⟨t, ht⟩ : ∃ t, m.tc = t := ⟨_, rfl⟩
      obtain ⟨f, hf⟩ : ∃ f, m.frm = f := ⟨_, rfl⟩
      rw [ht] at f0 hdo
      rw [hf] at f1 hdo
      have hj0 : (0 : Int) ≤ (j : Int) := by omega
      have hj1 : (j : Int) < (ms.length : Int) := by omega
      have hb1 : Below wr.heap.size wr (wr.alloc (.cells #[.int .i64 t, .int .i64 f] 31)) := (Below.refl _ _).alloc (Nat.le_refl _) _
      have hob1 : (wr.alloc (.cells #[.int .i64 t, .int .i64 f] 31)).heap[ob]? = some (.cells #[.slice ag n cc] 33) := (hb1.block _ (lt_of hob)).trans hob
      have HBE := Lib.hid (hbel.trans (hb1.mono hbel.size))
      have HOB1 := Lib.hid hob1
      have HOW := Lib.hid (show (wr.alloc (.cells #[.int .i64 t, .int .i64 f] 31)).ownsRow w0.heap.size 2 1 (.slice ag n cc) n (l'.map (Value.int .i64)) from hown.alloc _)
      have HCT := Lib.hid (clo17 (wr.alloc (.cells #[.int .i64 t, .int .i64 f] 31)) ob ag n cc t (cell_of hob1 rfl))
      have HCF := Lib.hid (clo17 (wr.alloc (.cells #[.int .i64 t, .int .i64 f] 31)) ob ag n cc f (cell_of hob1 rfl))
      have HDO := Lib.hid hdo
      have HL' := Lib.hid hl'
      clear hbel hob hown hdo hl' hd hmj hcell g0 g1 ht hf hb1 hob1 HR
      by_cases hT : 0 ≤ t ∧ t < n
      · rw [decide_eq_true hT] at HCT
        by_cases hF : 0 ≤ f ∧ f < n
        · rw [decide_eq_true hF] at HCF
          rw [if_pos ⟨hT, hF⟩] at HDO
          obtain ⟨tn, rfl⟩ := Int.eq_ofNat_of_zero_le hT.1
          obtain ⟨fn, rfl⟩ := Int.eq_ofNat_of_zero_le hF.1
          have htn : tn < n := by omega
          have hfn : fn < n := by omega
          obtain ⟨g, rfl, hgc, hgf, hgl, hgb⟩ := int_cell HOW.out (by omega)
          have x1 := hgc fn hfn
          have x2 := hgc tn htn
          obtain ⟨x, hx⟩ : ∃ x, l'.getD fn 0 = x := ⟨_, rfl⟩
          rw [hx] at x1
          have o0 : (wr.alloc (.cells #[.int .i64 (tn : Int), .int .i64 (fn : Int)] 31)).cell? ⟨ob, 0, none⟩ = some (.slice (some ⟨g, 0, none⟩) n cc) := cell_of HOB1.out rfl
          have hne : ob ≠ g := by
            rcases HOW.out.2 with ⟨e, _⟩ | ⟨g', cap', cur', e, _, hgh, _⟩
            · cases e
            · simp only [Value.slice.injEq, Option.some.injEq, Addr.mk.injEq, and_true] at e
              obtain ⟨⟨rfl⟩, _⟩ := e
              exact ne_typ HOB1.out hgh (by decide)
          have hdo := HDO.out
          simp only [Int.toNat_natCast] at hdo
          rw [hx] at hdo
          obtain ⟨hT0, hT1⟩ := hT
          obtain ⟨hF0, hF1⟩ := hF
          have HNX := Lib.hid (show Below w0.heap.size w0 ((wr.alloc (.cells #[.int .i64 (tn : Int), .int .i64 (fn : Int)] 31)).setCell ⟨g, tn, none⟩ (.int .i64 x)) ∧ ((wr.alloc (.cells #[.int .i64 (tn : Int), .int .i64 (fn : Int)] 31)).setCell ⟨g, tn, none⟩ (.int .i64 x)).heap[ob]? = some (.cells #[.slice (some ⟨g, 0, none⟩) n cc] 33) ∧ ((wr.alloc (.cells #[.int .i64 (tn : Int), .int .i64 (fn : Int)] 31)).setCell ⟨g, tn, none⟩ (.int .i64 x)).ownsRow w0.heap.size 2 1 (.slice (some ⟨g, 0, none⟩) n cc) n ((l'.set tn x).map (Value.int .i64)) ∧ doP (ms.drop (j + 1)) (l'.set tn x) = R from
            ⟨HBE.out.setCell hgb _, (Below.heap_setCell _ _ _ _ hne).trans HOB1.out, own_set HOW.out tn x, hdo⟩)
          clear hgc hx hdo HDO
          go_upto_region 7 with (first | (go_at_call_of 17 (Value.int .i64 (tn : Int)); refine HCT.out.mono ?_; rintro e w5 ⟨rfl, hw5⟩; obtain rfl := hw5.symm) | (go_at_call_of 17 (Value.int .i64 (fn : Int)); refine HCF.out.mono ?_; rintro e w5 ⟨rfl, hw5⟩; obtain rfl := hw5.symm))
          go_region
          all_goals
            go_wp2_with fail
            exact ⟨⟨j + 1, _, by omega, by go_num, Lib.hid ⟨HNX.out.1.drew, HNX.out.2.1, HNX.out.2.2.1, HNX.out.2.2.2⟩⟩, by simp [intOf]; omega⟩
        · rw [decide_eq_false hF] at HCF
          rw [if_neg (fun h => hF h.2)] at HDO
          clear hF
          go_wp2_with (first | (go_at_call_of 17 (Value.int .i64 t); refine HCT.out.mono ?_; rintro e w5 ⟨rfl, hw5⟩; obtain rfl := hw5.symm) | (go_at_call_of 17 (Value.int .i64 f); refine HCF.out.mono ?_; rintro e w5 ⟨rfl, hw5⟩; obtain rfl := hw5.symm))
          exact ⟨⟨j + 1, _, by omega, by go_num, Lib.hid ⟨HBE.out, HOB1.out, HOW.out, HDO.out⟩⟩, by simp [intOf]; omega⟩
      · rw [decide_eq_false hT] at HCT
        rw [if_neg (fun h => hT h.1)] at HDO
        clear hT
        go_wp2_with (first | (go_at_call_of 17 (Value.int .i64 t); refine HCT.out.mono ?_; rintro e w5 ⟨rfl, hw5⟩; obtain rfl := hw5.symm))
        exact ⟨⟨j + 1, _, by omega, by go_num, Lib.hid ⟨HBE.out, HOB1.out, HOW.out, HDO.out⟩⟩, by simp [intOf]; omega⟩
    · obtain rfl : j = ms.length := by omega
      obtain ⟨hbel, hob, hown, hdo⟩ := HR.out
      rw [List.drop_length, doP] at hdo
      subst hdo
      have o0 : wr.cell? ⟨ob, 0, none⟩ = some (.slice ag n cc) := cell_of hob rfl
      have HO := Lib.hid (And.intro hown hbel)
      clear hbel hob hown HR
      go_wp2_with fail
      go_ret
      exact ⟨_, rfl, HO.out.1, HO.out.2⟩
end Go.Proofs.Ytihnmhemhcmmoaa
