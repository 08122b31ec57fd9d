/- The walk of MovesCounts. -/
import Derived.Test.YtihnmhemhcmmoaaD5
import Derived.Test.YtihnmhemhcmmoaaC4
namespace Go.Proofs.Ytihnmhemhcmmoaa
open Go Go.RowKit Go.Maps Go.WideMaps Go.Sort
set_option maxHeartbeats 4000000
set_option maxRecDepth 100000

theorem cells31o {w : World} {base : Nat} {ag : Option Addr} {c : Nat} {l : List Mv} (h : w.ownsRow base 31 2 (.slice ag l.length c) l.length (flat l)) (hn : 0 < l.length) : ∃ g o, ag = some ⟨g, o, none⟩ ∧ ∀ (i : Nat) (m : Mv), l[i]? = some m → w.cell? ⟨g, o + i * 2, none⟩ = some (.int .i64 m.tc) ∧ w.cell? ⟨g, o + i * 2 + 1, none⟩ = some (.int .i64 m.frm) := by
  obtain ⟨g, rfl, hc⟩ := row31 h hn
  refine ⟨g, 0, rfl, fun i m hm => ?_⟩
  obtain ⟨h1, h2⟩ := flat_at l i m hm
  rw [Nat.zero_add]
  exact ⟨hc _ _ h1, hc _ _ h2⟩
theorem MovesCounts_f (vm : Value) (ms : List Mv) (spare : Int) (w : World) (hrow : MvRow w vm ms) (hsp : I64 spare) : Calls Try.prog 3 #[vm, .int .i64 spare] w fun e w' => e = .returned (.bool true) ∧ Below w.heap.size w w' := by
  have hm : ms.length ≤ maxLen := by obtain ⟨⟨a, c, _, h1, h2, _⟩, _⟩ := hrow; omega
  have HROW := Lib.hid hrow
  obtain ⟨⟨a, cc, rfl, hc, hcm, hcells⟩, h64⟩ := hrow
  have HC := Lib.hid hcells
  clear hcells h64
  by_cases hl2 : 200 < ms.length
  · have hl2' : (200 : Int) < (ms.length : Int) := by omega
    go_enter Try.func3, Try.ntmps3
    go_wp2_with (first | (go_at_call 7; refine (awake7 _).mono ?_; rintro e w6 ⟨rfl, hb6⟩; have HB6 := Lib.hid hb6; clear hb6))
    go_ret
    exact ⟨rfl, HB6.out⟩
  have hl2' : ¬ (200 : Int) < (ms.length : Int) := by omega
  have HB := Lib.hid (bad6 w _ ms spare HROW.out (by omega))
  go_enter Try.func3, Try.ntmps3
  go_wp2_with (first | (go_at_call 6; refine HB.out.mono ?_; rintro e w1 ⟨x, rfl, hgood, hb1⟩; refine Hid.out ?_))
  refine Lib.hid ?_
  have HB1 := Lib.hid hb1
  by_cases hx : x = 0
  case neg =>
    have hx' : (x != 0) = true := by simpa using hx
    clear hx hgood hb1
    go_wp2_with (first | (go_at_call 7; refine (awake7 _).mono ?_; rintro e w6 ⟨rfl, hb6⟩; have HB6 := Lib.hid (HB1.out.trans (hb6.mono HB1.out.size)); clear hb6))
    go_ret
    exact ⟨rfl, HB6.out⟩
  obtain ⟨hg1, _⟩ := hgood hx
  subst hx
  obtain ⟨k, hk1, hk2⟩ : ∃ k, ms.length + 2 ≤ k ∧ k ≤ 2000 := ⟨ms.length + 2, Nat.le_refl _, by omega⟩
  obtain ⟨l, hs1, hs2, hs3, hs4⟩ := counts_plain ms spare (by omega) hg1 k hk1
  have H8 := Lib.hid (order8 w1 _ ms spare k (HROW.out.below hb1) hsp (by omega) hk2 _ 0 (.inr (.inr ⟨good_badP hg1, by omega, l, rfl, hs1⟩)))
  have HS2 := Lib.hid hs2
  have HS3 := Lib.hid hs3
  have HS4 := Lib.hid hs4
  have hll : l.length ≤ 400 := by
    have := numP_le ms
    have := ringsN_le ms ms
    omega
  clear hs1 hs2 hs3 hs4 hg1 hgood hb1 hk1 hk2
  go_wp2_with (first | (go_at_call 8; refine H8.out.mono ?_; rintro e w2 hp; obtain ⟨hb2, u2, rfl, hu2⟩ := hp; obtain ⟨ag2, c2, rfl⟩ := own_shape hu2; refine Hid.out ?_))
  refine Lib.hid ?_
  have HB2 := Lib.hid (HB1.out.trans (hb2.mono HB1.out.size))
  have HU2 := Lib.hid hu2
  have H10 := Lib.hid (count10 w2 _ ms (HROW.out.below HB2.out) (by omega))
  rw [← HS2.out] at H10
  have hee : ((l.length : Int) != (l.length : Int)) = false := by simp
  clear hb2 hu2
  go_wp2_with (first | (go_at_call 9; refine (num9 _ _).mono ?_; rintro e w6 ⟨rfl, hw6⟩; obtain rfl := hw6.symm) | (go_at_call 10; refine H10.out.mono ?_; rintro e w3 ⟨rfl, hb3⟩; have HB23 := Lib.hid hb3; have HB3 := Lib.hid (HB2.out.trans (hb3.mono HB2.out.size)); clear hb3))
  go_loopw [7, 8] (fun nv iv wr => ∃ (j n : Nat), j ≤ ms.length ∧ n ≤ j ∧ nv = .int .i64 n ∧ iv = .int .i64 j ∧ Hid (n = numP (ms.take j)) ∧ Hid (Below w2.heap.size w2 wr)) (fun _ iv _ => ms.length - (intOf iv).toNat)
  case atStart => exact ⟨0, 0, by omega, by omega, rfl, rfl, Lib.hid rfl, HB23⟩
  case round =>
    obtain ⟨j, n, hj, hnj, rfl, rfl, HN, HR⟩ := hrel
    by_cases hjl : j < ms.length
    · obtain ⟨m, hmj⟩ : ∃ m, ms[j] = m := ⟨_, rfl⟩
      rcases HC.out with h0 | ⟨bm, om, rfl, hcell⟩
      · rw [h0] at hjl; simp at hjl
      obtain ⟨g0, g1⟩ := hcell j m (by rw [List.getElem?_eq_getElem hjl, hmj])
      have hbr := HB2.out.trans (HR.out.mono HB2.out.size)
      have f0 := (hbr.cell (World.block_lt_of_cell? w _ g0)).trans g0
      have f1 := (hbr.cell (World.block_lt_of_cell? w _ g1)).trans g1
      have hns := numP_succ ms j hjl
      rw [hmj] at hns
      obtain ⟨t, ht⟩ : ∃ t, m.tc = t := ⟨_, rfl⟩
      obtain ⟨f, hf⟩ : ∃ f, m.frm = f := ⟨_, rfl⟩
      rw [ht] at f0 hns
      rw [hf] at f1 hns
      have hj1 : (j : Int) < (ms.length : Int) := by omega
      have r0 := cell_regrown f0
      have r1 := cell_regrown f1
      have HNS := Lib.hid hns
      clear hns g0 g1 hcell hmj ht hf hbr
      by_cases e : t = f
      · have e' : (t != f) = false := by simpa using e
        have HV : Hid (n = numP (ms.take (j + 1))) := Lib.hid (by rw [HNS.out, if_pos e]; exact HN.out)
        clear e HNS
        go_upto_region 10 with fail
        refine wp_region_quiet_below (by kernel_rfl) (by kernel_rfl) ?_
        iterate 11 go_big_quiet_step (fail)
        refine wpQuiet_nil ?_; intro _ hw'; obtain ⟨⟨dq, osq⟩, hw''⟩ := hw'; subst hw''
        go_wp2_with fail
        exact ⟨⟨j + 1, n, by omega, by omega, rfl, by go_num, HV, Lib.hid (HR.out.trans ((below_regrown _ dq osq).mono HR.out.size))⟩, by simp [intOf]; omega⟩
      · have e' : (t != f) = true := by simpa using e
        have HV : Hid (n + 1 = numP (ms.take (j + 1))) := Lib.hid (by rw [HNS.out, if_neg e, HN.out])
        clear e HNS
        go_upto_region 10 with fail
        refine wp_region_quiet_below (by kernel_rfl) (by kernel_rfl) ?_
        iterate 11 go_big_quiet_step (fail)
        refine wpQuiet_nil ?_; intro _ hw'; obtain ⟨⟨dq, osq⟩, hw''⟩ := hw'; subst hw''
        go_wp2_with fail
        exact ⟨⟨j + 1, n + 1, by omega, by omega, by go_num, by go_num, HV, Lib.hid (HR.out.trans ((below_regrown _ dq osq).mono HR.out.size))⟩, by simp [intOf]; omega⟩
    · obtain rfl : j = ms.length := by omega
      have h := HN.out
      rw [List.take_length] at h
      have HNP := Lib.hid h
      have HR1 := HR
      clear h HN HR
      go_wp2_with fail
      go_loopw [9] (fun iv wr => ∃ (q : Nat), q ≤ l.length ∧ iv = .int .i64 q ∧ Hid (Below w2.heap.size w2 wr)) (fun iv _ => l.length - (intOf iv).toNat)
      case atStart => exact ⟨0, by omega, rfl, HR1⟩
      case round =>
        obtain ⟨q, hq, rfl, HQ⟩ := hrel
        by_cases hql : q < l.length
        · have hq1 : (q : Int) < (l.length : Int) := by omega
          obtain ⟨m, hmq⟩ : ∃ m, l[q]? = some m := ⟨_, List.getElem?_eq_getElem hql⟩
          have hmm := List.mem_of_getElem? hmq
          obtain ⟨g, o, rfl, hcl⟩ := cells31o HU2.out (by omega)
          obtain ⟨g0, g1⟩ := hcl q m hmq
          have f0 := (HQ.out.cell (World.block_lt_of_cell? w2 _ g0)).trans g0
          have f1 := (HQ.out.cell (World.block_lt_of_cell? w2 _ g1)).trans g1
          have hne := HS3.out m hmm
          have hno : n = l.length → m.tc ≠ spare ∧ m.frm ≠ spare := by
            intro e
            refine HS4.out ?_ m hmm
            have := HS2.out
            have := HNP.out
            omega
          obtain ⟨t, ht⟩ : ∃ t, m.tc = t := ⟨_, rfl⟩
          obtain ⟨f, hf⟩ : ∃ f, m.frm = f := ⟨_, rfl⟩
          rw [ht] at f0 hne hno
          rw [hf] at f1 hne hno
          have r0 := cell_regrown f0
          have r1 := cell_regrown f1
          have e1' : (t == f) = false := by simpa using hne
          clear hmm hcl g0 g1 hmq ht hf hne
          by_cases en : l.length = n
          · obtain ⟨n1, n2⟩ := hno en.symm
            have en' : ((l.length : Int) == (n : Int)) = true := by rw [en]; simp
            have e2' : (t == spare) = false := by simpa using n1
            have e3' : (f == spare) = false := by simpa using n2
            clear n1 n2 hno en
            go_upto_region 15 with fail
            refine wp_region_quiet_below (by kernel_rfl) (by kernel_rfl) ?_
            iterate 35 go_big_quiet_step (fail)
            refine wpQuiet_nil ?_; intro _ hw'; obtain ⟨⟨dq, osq⟩, hw''⟩ := hw'; subst hw''
            go_wp2_with fail
            exact ⟨⟨q + 1, by omega, by go_num, Lib.hid (HQ.out.trans ((below_regrown _ dq osq).mono HQ.out.size))⟩, by simp [intOf]; omega⟩
          · have en' : ((l.length : Int) == (n : Int)) = false := by simp; omega
            clear hno en
            go_upto_region 15 with fail
            refine wp_region_quiet_below (by kernel_rfl) (by kernel_rfl) ?_
            iterate 35 go_big_quiet_step (fail)
            refine wpQuiet_nil ?_; intro _ hw'; obtain ⟨⟨dq, osq⟩, hw''⟩ := hw'; subst hw''
            go_wp2_with fail
            exact ⟨⟨q + 1, by omega, by go_num, Lib.hid (HQ.out.trans ((below_regrown _ dq osq).mono HQ.out.size))⟩, by simp [intOf]; omega⟩
        · have HQB := Lib.hid (HB2.out.trans (HQ.out.mono HB2.out.size))
          clear HQ
          go_wp2_with (first | (go_at_call 7; refine (awake7 _).mono ?_; rintro e w6 ⟨rfl, hb6⟩; have HB6 := Lib.hid (HQB.out.trans (hb6.mono HQB.out.size)); clear hb6))
          go_ret
          exact ⟨rfl, HB6.out⟩
end Go.Proofs.Ytihnmhemhcmmoaa
