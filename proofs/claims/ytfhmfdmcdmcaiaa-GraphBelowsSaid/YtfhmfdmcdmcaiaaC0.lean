/- What each law asks: heavy, num, SameInts and the example. -/
import Derived.Test.YtfhmfdmcdmcaiaaB4
import Derived.Lib.QuietBelow
namespace Go.Proofs.Ytfhmfdmcdmcaiaa
open Go Go.RowKit Go.Sort
set_option maxHeartbeats 4000000
set_option maxRecDepth 100000

def heavyP (nm : List ByteArray) (needs : List (List ByteArray)) : Bool := decide (12 < nm.length) || decide (20 < needs.length) || needs.any fun l => decide (40 < l.length)
theorem num13 (w : World) (x : Int) : Calls Try.prog 13 #[.int .i64 x] w fun e w' => e = .returned (.int .i64 x) ∧ w' = w := by
  go_enter Try.func13, Try.ntmps13
  go_wp2_with fail
  go_ret
  exact ⟨rfl, rfl⟩
theorem heavy8 (w0 : World) (vn vd : Value) (nm : List ByteArray) (needs : List (List ByteArray)) (hn : StrRow w0 vn nm) (hd : NStr w0 vd needs) :
    Calls Try.prog 8 #[vn, vd] w0 fun e w' => e = .returned (.bool (heavyP nm needs)) ∧ w' = w0 := by
  obtain ⟨an, cn, rfl, hn1, hn2, _⟩ := hn
  obtain ⟨ad, cd, rfl, hd1, hd2, hd3⟩ := hd
  have HD3 := Lib.hid hd3
  unfold maxLen at hn2 hd2
  clear hd3
  by_cases h1 : 12 < nm.length
  · have b1 : (12 : Int) < (nm.length : Int) := by omega
    have e1 : heavyP nm needs = true := by simp [heavyP, h1]
    rw [e1]
    go_enter Try.func8, Try.ntmps8
    go_wp2_with fail
    go_ret
    exact ⟨rfl, rfl⟩
  have b1 : ¬ (12 : Int) < (nm.length : Int) := by omega
  have b1' : (nm.length : Int) ≤ 12 := by omega
  by_cases h2 : 20 < needs.length
  · have b2 : (20 : Int) < (needs.length : Int) := by omega
    have e1 : heavyP nm needs = true := by simp [heavyP, h2]
    rw [e1]
    go_enter Try.func8, Try.ntmps8
    go_wp2_with fail
    go_ret
    exact ⟨rfl, rfl⟩
  have b2 : (needs.length : Int) ≤ 20 := by omega
  have e1 : heavyP nm needs = needs.any fun l => decide (40 < l.length) := by simp [heavyP, h1, h2]
  rw [e1]
  clear e1 h1 h2 b1
  go_enter Try.func8, Try.ntmps8
  go_wp2_with fail
  go_loopw [5] (fun iv5 wr => ∃ (i : Nat), i ≤ needs.length ∧ iv5 = iv i ∧ Hid (wr = w0) ∧ Hid (∀ k, k < i → ∀ l, needs[k]? = some l → l.length ≤ 40)) (fun iv5 _ => needs.length - (intOf iv5).toNat)
  case atStart => exact ⟨0, by omega, rfl, Lib.hid rfl, Lib.hid (fun k hk => by omega)⟩
  case round =>
    obtain ⟨i, hi, rfl, HW, HB⟩ := hrel
    obtain rfl := HW.out
    by_cases hil : i < needs.length
    · have hi1 : (i : Int) < (needs.length : Int) := by omega
      rcases HD3.out with h0 | ⟨bd, od, rfl, hcd⟩
      · rw [h0] at hil; simp at hil
      obtain ⟨ss, hss⟩ : ∃ ss, needs[i]? = some ss := ⟨_, List.getElem?_eq_getElem hil⟩
      obtain ⟨u, hu, hus⟩ := hcd i ss hss
      obtain ⟨au, cu, rfl, hu1, hu2, hu3⟩ := hus
      have HSS := Lib.hid hss
      clear hcd hu3 hss
      by_cases h40 : 40 < ss.length
      · have b3 : (40 : Int) < (ss.length : Int) := by omega
        have HA : Hid ((needs.any fun l => decide (40 < l.length)) = true) := Lib.hid (List.any_eq_true.2 ⟨ss, List.mem_of_getElem? HSS.out, by simpa using h40⟩)
        go_wp2_with fail
        go_ret
        rw [HA.out]
        exact ⟨rfl, rfl⟩
      · have b3 : (ss.length : Int) ≤ 40 := by omega
        go_wp2_with fail
        refine ⟨⟨i + 1, by omega, by go_num, by first | exact Lib.hid rfl | exact Lib.hid trivial, Lib.hid (fun k hk l hl => ?_)⟩, by simp [intOf]; omega⟩
        by_cases e : k = i
        · rw [e, HSS.out] at hl
          obtain rfl := Option.some.inj hl
          omega
        · exact HB.out k (by omega) l hl
    · obtain rfl : i = needs.length := by omega
      have HA : Hid ((needs.any fun l => decide (40 < l.length)) = false) := Lib.hid (by
        rw [List.any_eq_false]
        intro l hl
        obtain ⟨k, hk, e⟩ := List.getElem_of_mem hl
        have := HB.out k hk l (by rw [List.getElem?_eq_getElem hk, e])
        simp; omega)
      go_wp2_with fail
      go_ret
      rw [HA.out]
      exact ⟨rfl, rfl⟩
theorem same12 (w0 : World) (va vb : Value) (a b : List Int) (ha : IntR w0 va a) (hb : IntR w0 vb b) :
    Calls Try.prog 12 #[va, vb] w0 fun e w' => e = .returned (.bool (decide (a = b))) ∧ Below w0.heap.size w0 w' := by
  obtain ⟨aa, ca, rfl, ha1, ha2, ha3⟩ := ha
  obtain ⟨ab, cb, rfl, hb1, hb2, hb3⟩ := hb
  have HA3 := Lib.hid ha3
  have HB3 := Lib.hid hb3
  unfold maxLen at ha2 hb2
  clear ha3 hb3
  by_cases hl : a.length = b.length
  · have b1 : ((a.length : Int) == (b.length : Int)) = true := by simp [hl]
    have HL := Lib.hid hl
    obtain ⟨n, hn⟩ : ∃ n, b.length = n := ⟨_, rfl⟩
    rw [hl, hn]
    rw [hl] at ha1
    have HN := Lib.hid hn
    rw [hn] at ha1 hb1
    clear hl hn b1
    go_enter Try.func12, Try.ntmps12
    go_wp2_with fail
    go_loopw [5] (fun iv5 wr => ∃ (i : Nat), i ≤ n ∧ iv5 = iv i ∧ Hid (Below w0.heap.size w0 wr) ∧ Hid (∀ k, k < i → a[k]? = b[k]?)) (fun iv5 _ => n - (intOf iv5).toNat)
    case atStart => exact ⟨0, by omega, rfl, Lib.hid (Below.refl _ _), Lib.hid (fun k hk => by omega)⟩
    case round =>
      obtain ⟨i, hi, rfl, HW, HE⟩ := hrel
      by_cases hil : i < n
      · have hi1 : (i : Int) < (n : Int) := by omega
        obtain ⟨x, hx⟩ : ∃ x, a[i]? = some x := ⟨_, List.getElem?_eq_getElem (by have := HL.out; have := HN.out; omega)⟩
        obtain ⟨y, hy⟩ : ∃ y, b[i]? = some y := ⟨_, List.getElem?_eq_getElem (by have := HL.out; have := HN.out; omega)⟩
        rcases HA3.out with h0 | ⟨ba, cura, rfl, hga, hca⟩
        · rw [h0] at hx; simp at hx
        rcases HB3.out with h0 | ⟨bb, curb, rfl, hgb, hcb⟩
        · rw [h0] at hy; simp at hy
        have f0 : wr.cell? ⟨ba, i, none⟩ = some (.int .i64 x) := (HW.out.cell (lt_of hga)).trans (cell_of hga (hca i x hx))
        have f1 : wr.cell? ⟨bb, i, none⟩ = some (.int .i64 y) := (HW.out.cell (lt_of hgb)).trans (cell_of hgb (hcb i y hy))
        have HX := Lib.hid hx
        have HY := Lib.hid hy
        clear hx hy hga hca hgb hcb
        by_cases hxy : x = y
        · have b2 : (x != y) = false := by simpa using hxy
          have HXY := Lib.hid hxy
          clear hxy
          go_wp2_with (go_quiet (fail))
          all_goals
            refine ⟨⟨i + 1, by omega, by go_num, Lib.hid (⟨HW.out.os, HW.out.tape, HW.out.output, HW.out.size, HW.out.block⟩), Lib.hid (fun k hk => ?_)⟩, by simp [intOf]; omega⟩
            by_cases e : k = i
            · rw [e, HX.out, HY.out, HXY.out]
            · exact HE.out k (by omega)
        · have b2 : (x != y) = true := by simpa using hxy
          have HD : Hid (decide (a = b) = false) := Lib.hid (by
            have : ¬ a = b := fun e => hxy (by have h1 := HX.out; rw [e, HY.out] at h1; exact (Option.some.inj h1).symm)
            simp [this])
          clear hxy
          go_wp2_with (go_quiet (fail))
          all_goals
            go_ret
            rw [HD.out]
            exact ⟨rfl, ⟨HW.out.os, HW.out.tape, HW.out.output, HW.out.size, HW.out.block⟩⟩
      · obtain rfl : i = n := by omega
        have HD : Hid (decide (a = b) = true) := Lib.hid (by
          have : a = b := List.ext_getElem? (fun k => by
            by_cases hk : k < i
            · exact HE.out k hk
            · rw [List.getElem?_eq_none (by have := HL.out; have := HN.out; omega), List.getElem?_eq_none (by have := HN.out; omega)])
          simp [this])
        go_wp2_with fail
        go_ret
        rw [HD.out]
        exact ⟨rfl, HW.out⟩
  · have b1 : ¬ (a.length : Int) = (b.length : Int) := by omega
    have HD : Hid (decide (a = b) = false) := Lib.hid (by
      have : ¬ a = b := fun e => hl (by rw [e])
      simp [this])
    go_enter Try.func12, Try.ntmps12
    go_wp2_with fail
    go_ret
    rw [HD.out]
    exact ⟨rfl, Below.refl _ _⟩
end Go.Proofs.Ytfhmfdmcdmcaiaa
