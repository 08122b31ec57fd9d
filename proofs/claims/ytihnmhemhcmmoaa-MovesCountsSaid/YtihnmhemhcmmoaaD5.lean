/- The walk of the document's Count. -/
import Derived.Test.YtihnmhemhcmmoaaD4
namespace Go.Proofs.Ytihnmhemhcmmoaa
open Go Go.RowKit Go.Maps Go.WideMaps Go.Sort
set_option maxHeartbeats 4000000
set_option maxRecDepth 100000

theorem numP_le (l : List Mv) : numP l ≤ l.length := List.length_filter_le _ _
theorem ringsN_le (a l : List Mv) : ringsN a l ≤ l.length := Nat.le_trans (List.length_filter_le _ _) (List.length_filter_le _ _)
theorem count10 (w0 : World) (v : Value) (ms : List Mv) (hrow : MvRow w0 v ms) (hm : ms.length ≤ 1000000) :
    Calls Try.prog 10 #[v] w0 fun e w' => e = .returned (.int .i64 ((numP ms + ringsN ms ms : Nat) : Int)) ∧ Below w0.heap.size w0 w' := by
  have HF := Lib.hid (fun (w : World) (hb : Below w0.heap.size w0 w) (c : Int) => from16 w v ms c (hrow.below hb) hm)
  obtain ⟨⟨a, cc, rfl, hc, hcm, hcells⟩, h64⟩ := hrow
  have HC := Lib.hid hcells
  clear hcells h64
  go_enter Try.func10, Try.ntmps10
  go_wp2_with fail
  go_loopw [3, 4, 5] (fun nv rv iv wr => ∃ (j n r : Nat), j ≤ ms.length ∧ n ≤ j ∧ r ≤ j ∧ nv = .int .i64 n ∧ rv = .int .i64 r ∧ iv = .int .i64 j ∧ Hid (n = numP (ms.take j) ∧ r = ringsN ms (ms.take j)) ∧ Hid (Below w0.heap.size w0 wr)) (fun _ _ iv _ => ms.length - (intOf iv).toNat)
  case atStart => exact ⟨0, 0, 0, by omega, by omega, by omega, rfl, rfl, rfl, Lib.hid ⟨rfl, rfl⟩, Lib.hid (Below.refl _ _)⟩
  case round =>
    obtain ⟨j, n, r, hj, hnj, hrj, rfl, rfl, rfl, HN, HR⟩ := hrel
    by_cases hjl : j < ms.length
    · obtain ⟨m, hmj⟩ : ∃ m, ms[j] = m := ⟨_, rfl⟩
      rcases HC.out with h0 | ⟨bm, om, rfl, hcell⟩
      · rw [h0] at hjl; simp at hjl
      obtain ⟨g0, g1⟩ := hcell j m (by rw [List.getElem?_eq_getElem hjl, hmj])
      have f0 := (HR.out.cell (World.block_lt_of_cell? w0 _ g0)).trans g0
      have f1 := (HR.out.cell (World.block_lt_of_cell? w0 _ g1)).trans g1
      have hns := numP_succ ms j hjl
      have hrs := ringsN_succ ms ms j hjl
      rw [hmj] at hns hrs
      obtain ⟨t, ht⟩ : ∃ t, m.tc = t := ⟨_, rfl⟩
      obtain ⟨f, hf⟩ : ∃ f, m.frm = f := ⟨_, rfl⟩
      unfold ringM at hrs
      rw [ht] at f0 g0 hns hrs
      rw [hf] at f1 hns hrs
      have hj1 : (j : Int) < (ms.length : Int) := by omega
      have HG0 := Lib.hid g0
      have r0 := cell_regrown f0
      have r1 := cell_regrown f1
      obtain ⟨R, hR⟩ : ∃ R, lapP (fromP ms) t (ms.length + 1) f true = R := ⟨_, rfl⟩
      rw [hR] at hrs
      have HNS := Lib.hid hns
      have HRS := Lib.hid hrs
      have HRR := Lib.hid hR
      clear hns hrs hR g0 g1 hcell hmj ht hf
      by_cases e : t = f
      · have e' : (t == f) = true := by simpa using e
        have HV : Hid (numP (ms.take (j + 1)) = numP (ms.take j) ∧ ringsN ms (ms.take (j + 1)) = ringsN ms (ms.take j)) := Lib.hid ⟨by rw [HNS.out, if_pos e]; rfl, by rw [HRS.out, if_neg (fun h => h.1 e)]; rfl⟩
        clear e HNS HRS HRR
        go_upto_region 5 with fail
        refine wp_region_quiet_below (by kernel_rfl) (by kernel_rfl) ?_
        iterate 11 go_big_quiet_step (fail)
        refine wpQuiet_nil ?_; intro _ hw'; obtain ⟨⟨dq, osq⟩, hw''⟩ := hw'; subst hw''
        go_wp2_with fail
        exact ⟨⟨j + 1, n, r, by omega, by omega, by omega, rfl, rfl, by go_num, Lib.hid ⟨HN.out.1.trans HV.out.1.symm, HN.out.2.trans HV.out.2.symm⟩, Lib.hid (HR.out.trans ((below_regrown _ dq osq).mono HR.out.size))⟩, by simp [intOf]; omega⟩
      · have e' : (t == f) = false := by simpa using e
        have HV : Hid (numP (ms.take (j + 1)) = numP (ms.take j) + 1 ∧ ringsN ms (ms.take (j + 1)) = ringsN ms (ms.take j) + if decide (R.1 = t) && R.2 then 1 else 0) := Lib.hid ⟨by rw [HNS.out, if_neg e], by rw [HRS.out]; congr 1; simp only [ne_eq, e, not_false_eq_true, true_and]⟩
        clear e HNS HRS
        go_upto_region 5 with fail
        refine wp_region_quiet_below (by kernel_rfl) (by kernel_rfl) ?_
        iterate 11 go_big_quiet_step (fail)
        refine wpQuiet_nil ?_; intro _ hw'; obtain ⟨⟨dq, osq⟩, hw''⟩ := hw'; subst hw''
        have HB2 := Lib.hid (HR.out.trans ((below_regrown wr dq osq).mono HR.out.size))
        have q1 := r1 dq osq
        clear r0 r1 f0 f1
        go_wp2_with fail
        clear q1
        go_loopw [6, 7, 8] (fun lv av kv wq => ∃ (k : Nat) (x : Int) (l : Bool), k ≤ ms.length + 1 ∧ lv = .bool l ∧ av = .int .i64 x ∧ kv = .int .i64 k ∧ Hid (lapP (fromP ms) t (ms.length + 1 - k) x l = R) ∧ Hid (Below w0.heap.size w0 wq)) (fun _ _ kv _ => ms.length + 1 - (intOf kv).toNat)
        case atStart => exact ⟨0, f, true, by omega, rfl, rfl, rfl, Lib.hid HRR.out, HB2⟩
        case round =>
          obtain ⟨k, x, l, hk, rfl, rfl, rfl, HL, HQ⟩ := hrel
          have f0 := (HQ.out.cell (World.block_lt_of_cell? w0 _ HG0.out)).trans HG0.out
          by_cases hkl : k ≤ ms.length
          · have hk1 : (k : Int) ≤ (ms.length : Int) := by omega
            have hfu : ms.length + 1 - k = (ms.length + 1 - (k + 1)) + 1 := by omega
            have hlap := HL.out
            rw [hfu, lapP] at hlap
            by_cases hx0 : 0 ≤ x
            · by_cases hxt : x = t
              · rw [if_neg (fun h => h.2 hxt)] at hlap
                subst hxt
                have e2' : (x != x) = false := by simp
                have e3' : (x == x) = true := by simp
                have HLP := Lib.hid hlap
                clear hlap hfu
                cases l with
                | true =>
                  have HV2 : Hid (ringsN ms (ms.take (j + 1)) = r + 1) := Lib.hid (by rw [HV.out.2, ← HLP.out, HN.out.2]; simp)
                  go_wp2_with fail
                  exact ⟨⟨j + 1, n + 1, r + 1, by omega, by omega, by omega, by go_num, by go_num, by go_num, Lib.hid ⟨by rw [HV.out.1, HN.out.1], HV2.out.symm⟩, HQ⟩, by simp [intOf]; omega⟩
                | false =>
                  have HV2 : Hid (ringsN ms (ms.take (j + 1)) = r) := Lib.hid (by rw [HV.out.2, ← HLP.out, HN.out.2]; simp)
                  go_wp2_with fail
                  exact ⟨⟨j + 1, n + 1, r, by omega, by omega, by omega, by go_num, rfl, by go_num, Lib.hid ⟨by rw [HV.out.1, HN.out.1], HV2.out.symm⟩, HQ⟩, by simp [intOf]; omega⟩
              · rw [if_pos ⟨hx0, hxt⟩] at hlap
                have e2' : (x != t) = true := by simpa using hxt
                have HLP := Lib.hid hlap
                have HF2 := Lib.hid (HF.out _ HQ.out x)
                obtain ⟨y, hy⟩ : ∃ y, fromP ms x = y := ⟨_, rfl⟩
                rw [hy] at HF2 HLP
                clear hlap hfu hxt hy
                cases l with
                | true =>
                  by_cases hlt : t < x
                  · have HLP2 : Hid (lapP (fromP ms) t (ms.length + 1 - (k + 1)) y true = R) := Lib.hid (by rw [← HLP.out]; simp [hlt])
                    clear HLP
                    go_wp2_with (first | (go_at_call 16; refine HF2.out.mono ?_; rintro e w2 ⟨rfl, hw2⟩; obtain rfl := hw2.symm))
                    exact ⟨⟨k + 1, y, true, by omega, rfl, rfl, by go_num, HLP2, HQ⟩, by simp [intOf]; omega⟩
                  · have HLP2 : Hid (lapP (fromP ms) t (ms.length + 1 - (k + 1)) y false = R) := Lib.hid (by rw [← HLP.out]; simp [hlt])
                    clear HLP
                    go_wp2_with (first | (go_at_call 16; refine HF2.out.mono ?_; rintro e w2 ⟨rfl, hw2⟩; obtain rfl := hw2.symm))
                    exact ⟨⟨k + 1, y, false, by omega, rfl, rfl, by go_num, HLP2, HQ⟩, by simp [intOf]; omega⟩
                | false =>
                  have HLP2 : Hid (lapP (fromP ms) t (ms.length + 1 - (k + 1)) y false = R) := Lib.hid (by rw [← HLP.out]; rfl)
                  clear HLP
                  go_wp2_with (first | (go_at_call 16; refine HF2.out.mono ?_; rintro e w2 ⟨rfl, hw2⟩; obtain rfl := hw2.symm))
                  exact ⟨⟨k + 1, y, false, by omega, rfl, rfl, by go_num, HLP2, HQ⟩, by simp [intOf]; omega⟩
            · rw [if_neg (fun h => hx0 h.1)] at hlap
              have HLP := Lib.hid hlap
              clear hlap hfu
              by_cases hxt : x = t
              · subst hxt
                have e3' : (x == x) = true := by simp
                cases l with
                | true =>
                  have HV2 : Hid (ringsN ms (ms.take (j + 1)) = r + 1) := Lib.hid (by rw [HV.out.2, ← HLP.out, HN.out.2]; simp)
                  go_wp2_with fail
                  exact ⟨⟨j + 1, n + 1, r + 1, by omega, by omega, by omega, by go_num, by go_num, by go_num, Lib.hid ⟨by rw [HV.out.1, HN.out.1], HV2.out.symm⟩, HQ⟩, by simp [intOf]; omega⟩
                | false =>
                  have HV2 : Hid (ringsN ms (ms.take (j + 1)) = r) := Lib.hid (by rw [HV.out.2, ← HLP.out, HN.out.2]; simp)
                  go_wp2_with fail
                  exact ⟨⟨j + 1, n + 1, r, by omega, by omega, by omega, by go_num, rfl, by go_num, Lib.hid ⟨by rw [HV.out.1, HN.out.1], HV2.out.symm⟩, HQ⟩, by simp [intOf]; omega⟩
              · have e3' : (x == t) = false := by simpa using hxt
                have HV2 : Hid (ringsN ms (ms.take (j + 1)) = r) := Lib.hid (by rw [HV.out.2, ← HLP.out, HN.out.2]; simp [hxt])
                clear hxt
                go_wp2_with fail
                exact ⟨⟨j + 1, n + 1, r, by omega, by omega, by omega, by go_num, rfl, by go_num, Lib.hid ⟨by rw [HV.out.1, HN.out.1], HV2.out.symm⟩, HQ⟩, by simp [intOf]; omega⟩
          · have hk1 : ¬ (k : Int) ≤ (ms.length : Int) := by omega
            have hlap := HL.out
            rw [show ms.length + 1 - k = 0 by omega, lapP] at hlap
            have HLP := Lib.hid hlap
            clear hlap
            by_cases hxt : x = t
            · subst hxt
              have e3' : (x == x) = true := by simp
              cases l with
              | true =>
                have HV2 : Hid (ringsN ms (ms.take (j + 1)) = r + 1) := Lib.hid (by rw [HV.out.2, ← HLP.out, HN.out.2]; simp)
                go_wp2_with fail
                exact ⟨⟨j + 1, n + 1, r + 1, by omega, by omega, by omega, by go_num, by go_num, by go_num, Lib.hid ⟨by rw [HV.out.1, HN.out.1], HV2.out.symm⟩, HQ⟩, by simp [intOf]; omega⟩
              | false =>
                have HV2 : Hid (ringsN ms (ms.take (j + 1)) = r) := Lib.hid (by rw [HV.out.2, ← HLP.out, HN.out.2]; simp)
                go_wp2_with fail
                exact ⟨⟨j + 1, n + 1, r, by omega, by omega, by omega, by go_num, rfl, by go_num, Lib.hid ⟨by rw [HV.out.1, HN.out.1], HV2.out.symm⟩, HQ⟩, by simp [intOf]; omega⟩
            · have e3' : (x == t) = false := by simpa using hxt
              have HV2 : Hid (ringsN ms (ms.take (j + 1)) = r) := Lib.hid (by rw [HV.out.2, ← HLP.out, HN.out.2]; simp [hxt])
              clear hxt
              go_wp2_with fail
              exact ⟨⟨j + 1, n + 1, r, by omega, by omega, by omega, by go_num, rfl, by go_num, Lib.hid ⟨by rw [HV.out.1, HN.out.1], HV2.out.symm⟩, HQ⟩, by simp [intOf]; omega⟩
    · obtain rfl : j = ms.length := by omega
      have h := HN.out
      rw [List.take_length] at h
      have HH := Lib.hid h
      clear h HN
      go_wp2_with fail
      go_ret
      refine ⟨?_, HR.out⟩
      obtain ⟨h1, h2⟩ := HH.out
      subst h1 h2
      rfl
end Go.Proofs.Ytihnmhemhcmmoaa
