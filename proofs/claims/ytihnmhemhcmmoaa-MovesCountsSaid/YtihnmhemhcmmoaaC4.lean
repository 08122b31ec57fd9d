/- The walk of MovesRings. -/
import Derived.Test.YtihnmhemhcmmoaaC3
import Derived.Test.YtihnmhemhcmmoaaB2
import Derived.Laws.MakeOwn
namespace Go.Proofs.Ytihnmhemhcmmoaa
open Go Go.RowKit Go.Maps Go.WideMaps Go.Sort
set_option maxHeartbeats 2000000
set_option maxRecDepth 100000

theorem make33 (w : World) (n : Nat) (hn : n ≤ 1000000) : (Instr.makeSlice 33 (.int .i64 n) (.int .i64 n)).run Try.prog w = .ok (.slice (some ⟨w.heap.size, 0, none⟩) n n) (w.alloc (.cells (madeCells #[.int .i64 0] n) 2)) := by
  obtain ⟨i9, hi9, hz90, hz91, hz92⟩ := info_parts info2
  have := run_make (P := Try.prog) w 33 2 i9 _ Try.underlying33 hi9 hz90 .i64 .i64 n n (by omega) (by omega) (by rw [hz92]; omega) (by omega)
  rw [hz91, show ((n : Int).toNat * 1) = n by omega] at this
  exact this
theorem zeros (n : Nat) : (madeCells #[.int .i64 0] n).toList = (List.replicate n (0 : Int)).map (Value.int .i64) := by
  apply List.ext_getElem
  · simp [madeCells]
  · intro i h1 h2
    simp [madeCells, Nat.mod_one]
theorem own_two {w : World} {B B' e e' size size' n n' : Nat} {v v' : Value} {xs xs' : List Value} (h : w.ownsRow B e size v n xs) (h' : w.ownsRow B' e' size' v' n' xs') (hne : e ≠ e') : v.ownBlock = none ∨ v.ownBlock ≠ v'.ownBlock := by
  cases hv : v.ownBlock with
  | none => exact .inl rfl
  | some g =>
    refine .inr (fun e2 => ?_)
    obtain ⟨_, c1, h1⟩ := own_block h hv
    obtain ⟨_, c2, h2⟩ := own_block h' e2.symm
    rw [h1] at h2
    simp only [Option.some.injEq, Obj.cells.injEq] at h2
    exact hne h2.2.1
theorem own_setOther {w : World} {B e size n X i : Nat} {v u : Value} {xs : List Value} {cs : Array Value} {t : TypeId} (h : w.ownsRow B e size v n xs) (hX : w.heap[X]? = some (.cells cs t)) (hne : t ≠ e) : (w.setCell ⟨X, i, none⟩ u).ownsRow B e size v n xs := by
  refine ⟨h.1, ?_⟩
  rcases h.2 with h2 | ⟨g, cap, cur, e1, hB, hg, h3⟩
  · exact .inl h2
  · exact .inr ⟨g, cap, cur, e1, hB, (Below.heap_setCell _ _ _ _ (ne_typ hg hX (Ne.symm hne))).trans hg, h3⟩
structure RInv (w : World) (k b j : Nat) (ag : Option Addr) (c : Nat) (wr : World) : Prop where
  bel : Below w.heap.size w wr
  ms : wr.ownsRow w.heap.size 31 2 (.slice ag j c) j (flat ((List.range j).map (gR k b)))
  cs : ∃ l : List Int, wr.ownsRow w.heap.size 2 1 (.slice (some ⟨w.heap.size, 0, none⟩) (k + 1) (k + 1)) (k + 1) (l.map (Value.int .i64)) ∧ l.length = k + 1 ∧ (∀ i, i < j → l.getD i 0 = 100 + (i : Nat)) ∧ l.getD k 0 = 0
theorem flat_snoc (l : List Mv) (m : Mv) : flat (l ++ [m]) = flat l ++ [.int .i64 m.tc, .int .i64 m.frm] := by simp [flat]
theorem RInv.step {w : World} {k b j : Nat} {ag : Option Addr} {c : Nat} {wr : World} (h : RInv w k b j ag c wr) (hj : j < k) (X : Obj) (w2 : World) (g cap : Nat) (t f : Int) (ht : (gR k b j).tc = t) (hf : (gR k b j).frm = f)
    (hown : w2.ownsRow w.heap.size 31 2 (.slice (some ⟨g, 0, none⟩) (j + 1) cap) (j + 1) (flat ((List.range j).map (gR k b)) ++ [.int .i64 t, .int .i64 f])) (hg : ((wr.alloc X).drew).grownBy w2 (Value.slice ag j c).ownBlock) :
    (∃ y, w2.cell? ⟨w.heap.size, j, none⟩ = some (.int .i64 y)) ∧ w2.frozen? ⟨w.heap.size, j, none⟩ = false ∧ w.heap.size < w2.heap.size ∧ RInv w k b (j + 1) (some ⟨g, 0, none⟩) cap (w2.setCell ⟨w.heap.size, j, none⟩ (.int .i64 (100 + j))) := by
  obtain ⟨hbel, hms, l, hcs, hl, hl1, hl2⟩ := h
  have hcs2 := World.ownsRow.kept ((hcs.alloc X).drew) hg (own_two hcs hms (by decide))
  have hbel2 : Below w.heap.size w w2 := (hbel.alloc hbel.size X).drew.grown hg (by have := hbel.size; simp; omega) (fun q hq => by
    obtain ⟨h1, _⟩ := own_block hms hq
    exact h1)
  obtain ⟨g0, e0, hc0, hf0, hl0, hb0⟩ := int_cell hcs2 (by omega)
  simp only [Option.some.injEq, Addr.mk.injEq, and_true] at e0
  obtain rfl := e0.symm
  refine ⟨⟨_, hc0 j (by omega)⟩, hf0 j, hl0, hbel2.setCell (Nat.le_refl _) _, ?_, l.set j (100 + j), own_set hcs2 _ _, by simpa using hl, fun i hi => ?_, ?_⟩
  · rw [List.range_succ, List.map_append, List.map_singleton, flat_snoc, ht, hf]
    obtain ⟨_, cur, hb⟩ := own_block hcs2 rfl
    exact own_setOther hown hb (by decide)
  · by_cases hij : i = j
    · subst hij
      exact getD_set_self (by omega) _
    · rw [getD_set_ne (fun e => hij e.symm)]
      exact hl1 i (by omega)
  · rw [getD_set_ne (by omega)]
    exact hl2
theorem flat_at : ∀ (l : List Mv) (i : Nat) (m : Mv), l[i]? = some m → (flat l)[i * 2]? = some (.int .i64 m.tc) ∧ (flat l)[i * 2 + 1]? = some (.int .i64 m.frm)
  | [], i, m, h => by simp at h
  | x :: l, 0, m, h => by
    obtain rfl : x = m := by simpa using h
    exact ⟨rfl, rfl⟩
  | x :: l, i + 1, m, h => by
    obtain ⟨h1, h2⟩ := flat_at l i m (by simpa using h)
    have e : flat (x :: l) = [.int .i64 x.tc, .int .i64 x.frm] ++ flat l := rfl
    rw [e, show (i + 1) * 2 = i * 2 + 1 + 1 by omega, show i * 2 + 1 + 1 + 1 = (i * 2 + 1) + 1 + 1 by omega]
    exact ⟨h1, h2⟩
theorem MvRow.of_own {w : World} {base : Nat} {v : Value} {l : List Mv} (h : w.ownsRow base 31 2 v l.length (flat l)) (h6 : ∀ m ∈ l, I64 m.tc ∧ I64 m.frm) : MvRow w v l := by
  have hc := fun g hg => h.cells (g := g) hg
  rcases h.2 with ⟨rfl, h0⟩ | ⟨g, cap, cur, rfl, hB, hg, hnc, hcm, _⟩
  · exact ⟨⟨none, 0, by rw [h0], by omega, by unfold maxLen; omega, .inl (List.length_eq_zero_iff.1 h0)⟩, h6⟩
  · refine ⟨⟨_, cap, rfl, hnc, hcm, .inr ⟨g, 0, rfl, fun i m hm => ?_⟩⟩, h6⟩
    obtain ⟨h1, h2⟩ := flat_at l i m hm
    have a1 := hc g rfl _ _ h1
    have a2 := hc g rfl _ _ h2
    rw [add_off] at a1 a2
    exact ⟨a1, by rw [Nat.add_assoc]; exact a2⟩
theorem i64_in {c : Int} (h : 0 ≤ c ∧ c ≤ 1000000) : I64 c := by
  unfold I64 Lit.wf
  simp [IntKind.min, IntKind.max]
  simp [IntKind.bits, IntKind.signed]
  omega
theorem gR_64 {k : Nat} (hk : 2 ≤ k) (hk2 : k < 62) (s : Nat) : ∀ m ∈ (List.range k).map (gR k s), I64 m.tc ∧ I64 m.frm := by
  intro m hm
  rw [List.mem_map] at hm
  obtain ⟨i, _, rfl⟩ := hm
  have h1 : (7 * i + s) % k < k := Nat.mod_lt _ (by omega)
  have h2 : (7 * i + s + 1) % k < k := Nat.mod_lt _ (by omega)
  refine ⟨i64_in ⟨Int.natCast_nonneg _, ?_⟩, i64_in ⟨Int.natCast_nonneg _, ?_⟩⟩
  · show (((7 * i + s) % k : Nat) : Int) ≤ _
    omega
  · show (((7 * i + s + 1) % k : Nat) : Int) ≤ _
    omega
theorem outR_64 {k : Nat} (hk : 2 ≤ k) (hk2 : k < 62) (s : Nat) : ∀ m ∈ outR k s, I64 m.tc ∧ I64 m.frm := by
  intro m hm
  have hx := fun j => xR_lt hk s j
  unfold outR at hm
  rcases List.mem_cons.1 hm with rfl | hm
  · have := hx 0
    exact ⟨i64_in ⟨Int.natCast_nonneg _, by show (k : Int) ≤ _; omega⟩, i64_in ⟨Int.natCast_nonneg _, by show ((xR k s 0 : Nat) : Int) ≤ _; omega⟩⟩
  · rw [List.mem_map] at hm
    obtain ⟨j, _, rfl⟩ := hm
    have := hx j
    have := hx (j + 1)
    refine ⟨i64_in ⟨Int.natCast_nonneg _, by show ((xR k s j : Nat) : Int) ≤ _; omega⟩, ?_⟩
    dsimp only
    split
    · exact i64_in ⟨Int.natCast_nonneg _, by omega⟩
    · exact i64_in ⟨Int.natCast_nonneg _, by omega⟩
theorem RInv.fin {w : World} {k b : Nat} {ag : Option Addr} {c : Nat} {wr : World} (h : RInv w k b k ag c wr) (hk : 2 ≤ k) (hk2 : k < 62) : MvRow wr (.slice ag k c) ((List.range k).map (gR k b)) ∧ IRow wr (.slice (some ⟨w.heap.size, 0, none⟩) (k + 1) (k + 1)) (cellsR k) := by
  obtain ⟨_, hms, l, hcs, hl, hl1, hl2⟩ := h
  refine ⟨MvRow.of_own (base := w.heap.size) (by rw [List.length_map, List.length_range]; exact hms) (gR_64 hk hk2 b), ?_⟩
  have e : l = cellsR k := by
    have hl' : (cellsR k).length = k + 1 := by simp [cellsR]
    apply List.ext_getElem (by omega)
    intro i h1 h2
    by_cases hik : i < k
    · have a := hl1 i hik
      have b := cellsR_at hik
      rw [← a] at b
      simpa [List.getD_eq_getElem?_getD, h1, h2] using b.symm
    · obtain rfl : i = k := by omega
      have a : l[i] = 0 := by simpa [List.getD_eq_getElem?_getD, h1] using hl2
      rw [a]
      simp [cellsR]
  rw [← e]
  exact IRow.of_own (base := w.heap.size) (by rw [hl]; exact hcs)
theorem MovesRings_f (n b : Nat) (hn : n ≤ 255) (hb : b ≤ 255) (w : World) : Calls Try.prog 5 #[.int .u8 n, .int .u8 b] w fun e w' => e = .returned (.bool true) ∧ Below w.heap.size w w' := by
  obtain ⟨k, hk⟩ : ∃ k, 2 + n % 60 = k := ⟨_, rfl⟩
  have hk2 : 2 ≤ k := by omega
  have hk62 : k < 62 := by omega
  have hkk : 2 + (n : Int) % 60 = (k : Int) := by omega
  have hmk : ∀ w : World, (Instr.makeSlice 33 (.int .i64 ((k : Int) + 1)) (.int .i64 ((k : Int) + 1))).run Try.prog w = .ok (.slice (some ⟨w.heap.size, 0, none⟩) (k + 1) (k + 1)) (w.alloc (.cells (madeCells #[.int .i64 0] (k + 1)) 2)) := fun w => make33 w (k + 1) (by omega)
  have hrow0 : (w.alloc (.cells (madeCells #[.int .i64 0] (k + 1)) 2)).ownsRow w.heap.size 2 1 (.slice (some ⟨w.heap.size, 0, none⟩) (k + 1) (k + 1)) (k + 1) ((List.replicate (k + 1) (0 : Int)).map (Value.int .i64)) := by
    rw [← zeros]
    exact World.ownsRow_lit w _ (k + 1) (Nat.le_refl _) (by unfold maxLen; omega) (by rw [size_madeCells]; omega)
  have hb0 : Below w.heap.size w (w.alloc (.cells (madeCells #[.int .i64 0] (k + 1)) 2)) := (Below.refl _ _).alloc (Nat.le_refl _) _
  have HROW0 := Lib.hid hrow0
  have HB0 := Lib.hid hb0
  have HKS := Lib.hid hk
  obtain ⟨i9, hi9, hz90, hz91, hz92⟩ := info_parts info31
  clear hrow0 hb0 hk
  go_enter Try.func5, Try.ntmps5
  go_wp2_with fail
  go_loopw [6, 8] (fun sv iv wr => ∃ (j : Nat) (ag : Option Addr) (c : Nat), j ≤ k ∧ sv = .slice ag j c ∧ iv = .int .i64 j ∧ Hid (RInv w k b j ag c wr)) (fun _ iv _ => k - (intOf iv).toNat)
  case atStart => exact ⟨0, none, 0, by omega, rfl, rfl, Lib.hid ⟨HB0.out, ⟨rfl, .inl ⟨rfl, rfl⟩⟩, _, HROW0.out, by simp, fun i hi => by omega, by simp [List.getD_eq_getElem?_getD]⟩⟩
  case round =>
    obtain ⟨j, ag, c, hj, rfl, rfl, HR⟩ := hrel
    by_cases hjl : j < k
    · have hj1 : (j : Int) < (k : Int) := by omega
      obtain ⟨t, ht⟩ : ∃ t, (gR k b j).tc = t := ⟨_, rfl⟩
      obtain ⟨f, hf⟩ : ∃ f, (gR k b j).frm = f := ⟨_, rfl⟩
      have ht2 : ((j : Int) * 7 + b) % k = t := by
        rw [← ht]
        show _ = (((7 * j + b) % k : Nat) : Int)
        rw [Int.natCast_emod]
        congr 1
        omega
      have hf2 : ((j : Int) * 7 + b + 1) % k = f := by
        rw [← hf]
        show _ = (((7 * j + b + 1) % k : Nat) : Int)
        rw [Int.natCast_emod]
        congr 1
        omega
      have hk0 : ¬ k = 0 := by omega
      have hw1 : IntKind.i64.wrap ((j : Int) * 7) = (j : Int) * 7 := wrap1_in _ (by omega)
      have hw2 : IntKind.i64.wrap (b : Int) = (b : Int) := wrap1_in _ (by omega)
      have hw3 : IntKind.i64.wrap ((j : Int) * 7 + b) = (j : Int) * 7 + b := wrap1_in _ (by omega)
      have hw4 : IntKind.i64.wrap ((j : Int) * 7 + b + 1) = (j : Int) * 7 + b + 1 := wrap1_in _ (by omega)
      have hm1 : Int.tmod ((j : Int) * 7 + b) k = t := by rw [← ht2]; exact Int.tmod_eq_emod_of_nonneg (by omega)
      have hm2 : Int.tmod ((j : Int) * 7 + b + 1) k = f := by rw [← hf2]; exact Int.tmod_eq_emod_of_nonneg (by omega)
      clear ht2 hf2
      have HST := Lib.hid (fun w2 g cap => HR.out.step hjl (.cells #[.int .i64 t, .int .i64 f] 31) w2 g cap t f ht hf)
      have HROW := Lib.hid HR.out.ms
      have HSZ := Lib.hid HR.out.bel.size
      clear ht hf HR
      go_upto_region 7 with fail
      go_region_law (refine step_append_lies _ (by rfl) _ _ _ (by rfl) w.heap.size 31 i9 _ 2 16 Try.underlying22 hi9 hz90 hz91 hz92 rfl (by decide) _ j _ (by rfl) ((HROW.out.alloc _).drew) ⟨wr.heap.size, 0, none⟩ 1 1 [.int .i64 t, .int .i64 f] (by rfl) (by rfl) (World.news_of_block (cs := #[.int .i64 t, .int .i64 f]) (t := 31) (fr := (0, 0)) (heap_alloc_new wr _)) (by simp [Value.oneCell']) (by omega) (by unfold maxLen; omega) (by omega) (by have := HSZ.out; simp; omega) (wr.heap.size + 1) (by simp) ?_; intro gg cap w2 hown2 hgrow hat hlt2; obtain ⟨⟨y, b1⟩, b2, b3, hin2⟩ := HST.out w2 gg cap hown2 hgrow; have HIN2 := Lib.hid hin2; clear hown2 hgrow hat hlt2 hin2)
      all_goals
        go_wp2_with fail
        exact ⟨⟨j + 1, _, _, by omega, rfl, by go_num, HIN2⟩, by simp [intOf]; omega⟩
    · obtain rfl : k = j := by omega
      obtain ⟨hMS, hCS⟩ := HR.out.fin hk2 hk62
      have HMS := Lib.hid hMS
      have HCS := Lib.hid hCS
      have HBE := Lib.hid HR.out.bel
      clear hMS hCS HR
      by_cases h7 : k % 7 = 0
      · have h7' : ((k : Int) % 7 == 0) = true := by
          have : (k : Int) % 7 = 0 := by omega
          rw [this]; rfl
        clear h7
        go_wp2_with (first | (go_at_call 7; refine (awake7 _).mono ?_; rintro e w6 ⟨rfl, hb6⟩; have HB6 := Lib.hid (HBE.out.trans (hb6.mono HBE.out.size)); clear hb6))
        go_ret
        exact ⟨rfl, HB6.out⟩
      · have h7' : ((k : Int) % 7 == 0) = false := by
          have : (k : Int) % 7 ≠ 0 := by omega
          simpa using this
        have H8 := Lib.hid (order8 wr (.slice ag k c) _ (k : Int) (k + 1 + 0) HMS.out (i64_in ⟨by omega, by omega⟩) (by rw [List.length_map, List.length_range]; omega) (by omega) _ 0 (.inr (.inr ⟨ring_bad hk2 hk62 h7 b, by rw [List.length_map, List.length_range]; omega, _, rfl, ring_run k b hk2 hk62 h7 0⟩)))
        have HL := Lib.hid (ring_cells hk2 b)
        have H64 := Lib.hid (outR_64 hk2 hk62 b)
        have HOL := Lib.hid (outR_len k b)
        clear h7
        go_wp2_with (first | (go_at_call 8; refine H8.out.mono ?_; rintro e w2 hp; obtain ⟨hb2, u2, rfl, hu2⟩ := hp; obtain ⟨ag2, c2, rfl⟩ := own_shape hu2; refine Hid.out ?_))
        refine Lib.hid ?_
        have HB2 := Lib.hid (HBE.out.trans (hb2.mono HBE.out.size))
        have HD := Lib.hid (do12 w2 _ _ (outR k b) (cellsR k) (MvRow.of_own hu2 H64.out) (HCS.out.below hb2) (by rw [HOL.out]; omega) (by simp [cellsR]; omega))
        rw [HOL.out] at HD ⊢
        obtain ⟨L, hL⟩ : ∃ L, doP (outR k b) (cellsR k) = L := ⟨_, rfl⟩
        rw [hL] at HD HL
        obtain ⟨hL1, hL2⟩ := HL.out
        rw [hL1] at HD
        have HL2 := Lib.hid hL2
        clear hb2 hu2 hL hL2 hL1
        go_wp2_with (first | (go_at_call 12; refine HD.out.mono ?_; rintro e w3 ⟨u3, rfl, ho3, hb3⟩; obtain ⟨a3, c3, rfl⟩ := own_shape ho3; have HO3 := Lib.hid ho3; have HB3 := Lib.hid (HB2.out.trans (hb3.mono HB2.out.size)); clear ho3 hb3) | (go_at_call 9; refine (num9 _ _).mono ?_; rintro e w6 ⟨rfl, hw6⟩; obtain rfl := hw6.symm))
        go_loopw [12] (fun iv wq => ∃ (j : Nat), j ≤ k ∧ iv = .int .i64 j ∧ Hid (Below w3.heap.size w3 wq)) (fun iv _ => k - (intOf iv).toNat)
        case atStart => exact ⟨0, by omega, rfl, Lib.hid (Below.refl _ _)⟩
        case round =>
          obtain ⟨j, hj, rfl, HQ⟩ := hrel
          by_cases hjl : j < k
          · have hj1 : (j : Int) < (k : Int) := by omega
            obtain ⟨g, rfl, hgc, _, hgl, _⟩ := int_cell HO3.out (by omega)
            have x0 := (HQ.out.cell (p := ⟨g, j, none⟩) hgl).trans (hgc j (by omega))
            obtain ⟨y, hy⟩ : ∃ y : Int, (100 : Int) + ((j : Int) + 1) % k = y := ⟨_, rfl⟩
            have hy2 : L.getD j 0 = y := by
              rw [HL2.out j hjl, ← hy, Int.natCast_emod]
              rfl
            rw [hy2] at x0
            have hyw : wrap64 y = y := IntWalk.wrap64_in _ (by
              have := Int.emod_nonneg ((j : Int) + 1) (b := (k : Int)) (by omega)
              have := Int.emod_lt_of_pos ((j : Int) + 1) (b := (k : Int)) (by omega)
              omega)
            clear hgc hgl hy2
            have hy3 : (y != y) = false := by simp
            have r0 := cell_regrown x0
            have hk0 : ¬ k = 0 := by omega
            go_upto_region 18 with fail
            refine wp_region_quiet_below (by kernel_rfl) (by kernel_rfl) ?_; go_big_quiet_step (fail); go_big_quiet_step (fail); go_big_quiet_step (fail); go_big_quiet_step (fail); go_big_quiet_step (fail); go_big_quiet_step (fail); go_big_quiet_step (fail); go_big_quiet_step (fail); go_big_quiet_step (fail); go_big_quiet_step (fail); refine wpQuiet_nil ?_; intro _ hw'; obtain ⟨⟨dq, osq⟩, hw''⟩ := hw'; subst hw''
            go_wp2_with fail
            exact ⟨⟨j + 1, by omega, by go_num, Lib.hid (HQ.out.trans ((below_regrown _ dq osq).mono HQ.out.size))⟩, by simp [intOf]; omega⟩
          · have HQB := Lib.hid (HB3.out.trans (HQ.out.mono HB3.out.size))
            clear HQ
            go_wp2_with (first | (go_at_call 7; refine (awake7 _).mono ?_; rintro e w6 ⟨rfl, hb6⟩; have HB6 := Lib.hid (HQB.out.trans (hb6.mono HQB.out.size)); clear hb6))
            go_ret
            exact ⟨rfl, HB6.out⟩
theorem u8_nat {a : Int} (h : (Lit.int .u8 a).wf = true) : ∃ n : Nat, n ≤ 255 ∧ a = n := by
  unfold Lit.wf at h
  simp [IntKind.min, IntKind.max] at h
  simp [IntKind.bits, IntKind.signed] at h
  exact ⟨a.toNat, by omega, by omega⟩
theorem MovesRings_g (a0 a1 : Int) (w : World) (w0 : (Lit.int .u8 a0).wf = true) (w1 : (Lit.int .u8 a1).wf = true) : Calls Try.prog 5 #[.int .u8 a0, .int .u8 a1] w fun e w' => e = .returned (.bool true) ∧ Below w.heap.size w w' := by
  obtain ⟨n, hn, rfl⟩ := u8_nat w0
  obtain ⟨b, hb, rfl⟩ := u8_nat w1
  exact MovesRings_f n b hn hb w
end Go.Proofs.Ytihnmhemhcmmoaa
