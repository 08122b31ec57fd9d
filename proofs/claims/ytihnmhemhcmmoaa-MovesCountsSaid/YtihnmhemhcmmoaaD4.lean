/- The walks of the document's from and Bad. -/
import Derived.Test.YtihnmhemhcmmoaaD3
namespace Go.Proofs.Ytihnmhemhcmmoaa
open Go Go.RowKit Go.Maps Go.WideMaps Go.Sort
set_option maxHeartbeats 2000000
set_option maxRecDepth 100000

theorem from16 (w0 : World) (v : Value) (ms : List Mv) (c : Int) (hrow : MvRow w0 v ms) (hm : ms.length ≤ 1000000) :
    Calls Try.prog 16 #[v, .int .i64 c] w0 fun e w' => e = .returned (.int .i64 (fromP ms c)) ∧ w' = w0 := by
  obtain ⟨⟨a, cc, rfl, hc, hcm, hcells⟩, h64⟩ := hrow
  have HC := Lib.hid hcells
  obtain ⟨B, hB⟩ : ∃ B, fromP ms c = B := ⟨_, rfl⟩
  have HBB := Lib.hid hB
  rw [hB]
  clear hcells h64 hB
  go_enter Try.func16, Try.ntmps16
  go_wp2_with fail
  go_loopw [5] (fun iv wr => ∃ (j : Nat), j ≤ ms.length ∧ iv = .int .i64 j ∧ Hid (fromP (ms.drop j) c = B) ∧ Hid (wr = w0)) (fun iv _ => ms.length - (intOf iv).toNat)
  case atStart => exact ⟨0, by omega, rfl, Lib.hid HBB.out, Lib.hid rfl⟩
  case round =>
    obtain ⟨j, hj, rfl, HR, HW⟩ := hrel
    obtain rfl := HW.out
    by_cases hjl : j < ms.length
    · have hbad := HR.out
      have hd : ms.drop j = ms[j] :: ms.drop (j + 1) := List.drop_eq_getElem_cons hjl
      obtain ⟨m, hmj⟩ : ∃ m, ms[j] = m := ⟨_, rfl⟩
      rw [hd, hmj, fromP] at hbad
      rcases HC.out with h0 | ⟨bm, om, rfl, hcell⟩
      · rw [h0] at hjl; simp at hjl
      obtain ⟨f0, f1⟩ := hcell j m (by rw [List.getElem?_eq_getElem hjl, hmj])
      obtain ⟨t, ht⟩ : ∃ t, m.tc = t := ⟨_, rfl⟩
      obtain ⟨f, hf⟩ : ∃ f, m.frm = f := ⟨_, rfl⟩
      rw [ht] at f0 hbad
      rw [hf] at f1 hbad
      have hj1 : (j : Int) < (ms.length : Int) := by omega
      have HBAD := Lib.hid hbad
      clear hbad hd hmj hcell ht hf HR
      by_cases c1 : t = c
      · have c1' : (t == c) = true := by simpa using c1
        by_cases c2 : f = c
        · have c2' : (f != c) = false := by simpa using c2
          have HV : Hid (fromP (ms.drop (j + 1)) c = B) := Lib.hid (by have h := HBAD.out; rw [if_neg (fun e => e.2 c2)] at h; exact h)
          clear HBAD c1 c2
          go_wp2_with fail
          exact ⟨⟨j + 1, by omega, by go_num, HV, by first | exact Lib.hid rfl | exact Lib.hid trivial⟩, by simp [intOf]; omega⟩
        · have c2' : (f != c) = true := by simpa using c2
          have HV : Hid (f = B) := Lib.hid (by have h := HBAD.out; rw [if_pos ⟨c1, c2⟩] at h; exact h)
          clear HBAD c1 c2
          go_wp2_with fail
          go_ret
          exact ⟨by have := HV.out; subst this; rfl, rfl⟩
      · have c1' : (t == c) = false := by simpa using c1
        have HV : Hid (fromP (ms.drop (j + 1)) c = B) := Lib.hid (by have h := HBAD.out; rw [if_neg (fun e => c1 e.1)] at h; exact h)
        clear HBAD c1
        go_wp2_with fail
        exact ⟨⟨j + 1, by omega, by go_num, HV, by first | exact Lib.hid rfl | exact Lib.hid trivial⟩, by simp [intOf]; omega⟩
    · obtain rfl : j = ms.length := by omega
      have hbad := HR.out
      rw [List.drop_length, fromP] at hbad
      have HBAD := Lib.hid hbad
      clear hbad HR
      go_wp2_with fail
      go_ret
      exact ⟨by have := HBAD.out; subst this; rfl, rfl⟩
theorem good_step {ms : List Mv} {spare : Int} {j : Nat} {m : Mv} (hj : ms[j]? = some m) (h : Good (ms.take j) spare) (h1 : 0 ≤ m.tc) (h2 : 0 ≤ m.frm) (h3 : m.tc ≠ spare) (h4 : m.frm ≠ spare) (hd : ∀ k, k < j → ∀ x, ms[k]? = some x → x.tc ≠ m.tc) : Good (ms.take (j + 1)) spare := by
  obtain ⟨g1, g2, g3⟩ := h
  rw [List.take_add_one, hj]
  refine ⟨g1, fun x hx => ?_, ?_⟩
  · rw [List.mem_append] at hx
    rcases hx with hx | hx
    · exact g2 x hx
    · simp at hx
      subst hx
      exact ⟨h1, h2, h3, h4⟩
  · rw [List.map_append, List.nodup_append]
    refine ⟨g3, by simp, fun a ha b hb => ?_⟩
    simp at hb
    subst hb
    obtain ⟨x, hx, e⟩ := List.mem_map.1 ha
    obtain ⟨k, hk, e2⟩ := List.getElem_of_mem hx
    rw [← e]
    rw [List.length_take] at hk
    refine hd k (by omega) x ?_
    rw [List.getElem?_eq_getElem (by omega)]
    rw [List.getElem_take] at e2
    rw [e2]
theorem bad6 (w0 : World) (v : Value) (ms : List Mv) (spare : Int) (hrow : MvRow w0 v ms) (hm : ms.length ≤ 1000000) :
    Calls Try.prog 6 #[v, .int .i64 spare] w0 fun e w' => ∃ x : Int, e = .returned (.int .i64 x) ∧ (x = 0 → Good ms spare ∧ ms.length ≤ 1000) ∧ Below w0.heap.size w0 w' := by
  obtain ⟨⟨a, cc, rfl, hc, hcm, hcells⟩, h64⟩ := hrow
  have HC := Lib.hid hcells
  clear hcells h64
  go_enter Try.func6, Try.ntmps6
  by_cases hs : spare < 0
  · go_wp2_with fail
    go_ret
    exact ⟨1, rfl, fun h => by omega, Below.refl _ _⟩
  have HS := Lib.hid hs
  go_wp2_with fail
  go_loopw [5] (fun iv wr => ∃ (j : Nat), j ≤ ms.length ∧ iv = .int .i64 j ∧ Hid (Good (ms.take j) spare ∧ Below w0.heap.size w0 wr)) (fun iv _ => ms.length - (intOf iv).toNat)
  case atStart => exact ⟨0, by omega, rfl, Lib.hid ⟨⟨by have := HS.out; omega, fun m hm => by simp at hm, by simp⟩, Below.refl _ _⟩⟩
  case round =>
    obtain ⟨j, hj, rfl, HR⟩ := hrel
    by_cases hjl : j < ms.length
    · obtain ⟨m, hmj⟩ : ∃ m, ms[j]? = some m := ⟨_, List.getElem?_eq_getElem hjl⟩
      rcases HC.out with h0 | ⟨bm, om, rfl, hcell⟩
      · rw [h0] at hjl; simp at hjl
      obtain ⟨g0, g1⟩ := hcell j m hmj
      have hbel := HR.out.2
      have f0 := hbel.cell (World.block_lt_of_cell? w0 _ g0) |>.trans g0
      have f1 := hbel.cell (World.block_lt_of_cell? w0 _ g1) |>.trans g1
      have HG0 := Lib.hid g0
      obtain ⟨t, ht⟩ : ∃ t, m.tc = t := ⟨_, rfl⟩
      obtain ⟨f, hf⟩ : ∃ f, m.frm = f := ⟨_, rfl⟩
      rw [ht] at f0 HG0
      rw [hf] at f1
      have hj1 : (j : Int) < (ms.length : Int) := by omega
      have HST := Lib.hid (fun h1 h2 h3 h4 hd => good_step (spare := spare) hmj HR.out.1 h1 h2 h3 h4 hd)
      rw [ht, hf] at HST
      have HCL := Lib.hid hcell
      clear hbel g0 g1 hcell hmj ht hf
      by_cases c1 : t < 0
      · go_wp2_with fail
        go_ret
        exact ⟨1, rfl, fun h => by omega, HR.out.2⟩
      by_cases c2 : f < 0
      · go_wp2_with fail
        go_ret
        exact ⟨1, rfl, fun h => by omega, HR.out.2⟩
      by_cases c4 : t = spare
      · have c4' : (t == spare) = true := by simpa using c4
        clear c4
        go_wp2_with fail
        go_ret
        exact ⟨1, rfl, fun h => by omega, HR.out.2⟩
      have c4' : (t == spare) = false := by simpa using c4
      by_cases c5 : f = spare
      · have c5' : (f == spare) = true := by simpa using c5
        clear c4 c5
        go_wp2_with fail
        go_ret
        exact ⟨1, rfl, fun h => by omega, HR.out.2⟩
      have c5' : (f == spare) = false := by simpa using c5
      have HST2 := Lib.hid (HST.out (by omega) (by omega) c4 c5)
      clear c4 c5 HST
      go_wp2_with fail
      go_loopw [6] (fun iv wq => ∃ (k : Nat), k ≤ j ∧ iv = .int .i64 k ∧ Hid (∀ q, q < k → ∀ x, ms[q]? = some x → x.tc ≠ t) ∧ Hid (Below w0.heap.size w0 wq)) (fun iv _ => j - (intOf iv).toNat)
      case atStart => exact ⟨0, by omega, rfl, Lib.hid (fun q hq => by omega), Lib.hid HR.out.2⟩
      case round =>
        obtain ⟨k, hk, rfl, HD, HQ⟩ := hrel
        by_cases hkj : k < j
        · have hk1 : (k : Int) < (j : Int) := by omega
          have hk2 : (k : Int) < (ms.length : Int) := by omega
          obtain ⟨y, hy⟩ : ∃ y, ms[k]? = some y := ⟨_, List.getElem?_eq_getElem (by omega)⟩
          obtain ⟨q0, _⟩ := HCL.out k y hy
          obtain ⟨u, hu⟩ : ∃ u, y.tc = u := ⟨_, rfl⟩
          rw [hu] at q0
          have x0 := (HQ.out.cell (World.block_lt_of_cell? w0 _ q0)).trans q0
          have x1 := (HQ.out.cell (World.block_lt_of_cell? w0 _ HG0.out)).trans HG0.out
          have r0 := cell_regrown x0
          have r1 := cell_regrown x1
          have HY := Lib.hid (And.intro hy hu)
          clear hy hu q0 f0 f1
          by_cases e : u = t
          · have e' : (u == t) = true := by simpa using e
            clear e
            go_upto_region 11 with fail
            refine wp_region_quiet_below (by kernel_rfl) (by kernel_rfl) ?_
            iterate 11 go_big_quiet_step (fail)
            refine wpQuiet_nil ?_; intro _ hw'; obtain ⟨⟨dq, osq⟩, hw''⟩ := hw'; subst hw''
            go_wp2_with fail
            go_ret
            exact ⟨1, rfl, fun h => by omega, HQ.out.trans ((below_regrown _ dq osq).mono HQ.out.size)⟩
          · have e' : (u == t) = false := by simpa using e
            have HD2 : Hid (∀ q, q < k + 1 → ∀ x, ms[q]? = some x → x.tc ≠ t) := Lib.hid (by
              intro q hq x hx
              by_cases hqk : q = k
              · subst hqk
                rw [HY.out.1] at hx
                obtain rfl := Option.some.inj hx
                rw [HY.out.2]; exact e
              · exact HD.out q (by omega) x hx)
            clear e
            go_upto_region 11 with fail
            refine wp_region_quiet_below (by kernel_rfl) (by kernel_rfl) ?_
            iterate 11 go_big_quiet_step (fail)
            refine wpQuiet_nil ?_; intro _ hw'; obtain ⟨⟨dq, osq⟩, hw''⟩ := hw'; subst hw''
            go_wp2_with fail
            exact ⟨⟨k + 1, by omega, by go_num, HD2, Lib.hid (HQ.out.trans ((below_regrown _ dq osq).mono HQ.out.size))⟩, by simp [intOf]; omega⟩
        · obtain rfl : k = j := by omega
          clear f0 f1
          go_wp2_with fail
          exact ⟨⟨k + 1, by omega, by go_num, Lib.hid ⟨HST2.out HD.out, HQ.out⟩⟩, by simp [intOf]; omega⟩
    · obtain rfl : j = ms.length := by omega
      by_cases hl : 1000 < ms.length
      · have hl' : (1000 : Int) < (ms.length : Int) := by omega
        go_wp2_with fail
        go_ret
        exact ⟨2, rfl, fun h => by omega, HR.out.2⟩
      · have hl' : ¬ (1000 : Int) < (ms.length : Int) := by omega
        go_wp2_with fail
        go_ret
        have h := HR.out
        rw [List.take_length] at h
        exact ⟨0, rfl, fun _ => ⟨h.1, by omega⟩, h.2⟩
end Go.Proofs.Ytihnmhemhcmmoaa
