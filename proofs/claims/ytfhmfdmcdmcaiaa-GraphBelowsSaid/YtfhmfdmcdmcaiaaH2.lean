/- Below where nothing is answered; and the document's Below. -/
import Derived.Test.YtfhmfdmcdmcaiaaH1
import Derived.Test.YtfhmfdmcdmcaiaaC4
namespace Go.Proofs.Ytfhmfdmcdmcaiaa
open Go Go.RowKit Go.Sort
set_option maxHeartbeats 4000000
set_option maxRecDepth 100000

theorem below15_none (w0 : World) (vn vd : Value) (nm : List ByteArray) (needs : List (List ByteArray)) (x : Int) (hn : StrRow w0 vn nm) (hd : NStr w0 vd needs) (hll : ∀ x ∈ needs, x.length ≤ 1000) (hnl : nm.length ≤ 1000000) (hno : ¬ ((orderR nm needs).2.2 = 0 ∧ 0 ≤ x ∧ x < (nm.length : Int))) :
    Calls Try.prog 15 #[vn, vd, .int .i64 x] w0 fun e w' => Below w0.heap.size w0 w' ∧ e = .returned (.slice none 0 0) := by
  have HO := Lib.hid (order10 w0 vn vd nm needs hn hd hll hnl)
  unfold OrderPost at HO
  generalize orderR nm needs = r at HO hno
  obtain ⟨out, at_, er⟩ := r
  dsimp only at HO hno
  obtain ⟨an, cn, rfl, hn1, hn2, hn3⟩ := hn
  clear hn3
  by_cases h1 : er = 0
  · have h1' : (er != 0) = false := by simpa using h1
    by_cases h2 : x < 0
    · clear hno h1
      go_enter Try.func15, Try.ntmps15
      go_wp2_with (first | (go_at_call 10; refine HO.out.mono ?_; rintro e w1 ⟨hb1, vo, rfl, ho1⟩; have HB1 := Lib.hid hb1; clear hb1 ho1))
      go_ret
      exact ⟨HB1.out, rfl⟩
    · have h3 : (nm.length : Int) ≤ x := by
        apply Classical.byContradiction
        intro h
        exact hno ⟨h1, by omega, by omega⟩
      clear hno h1
      go_enter Try.func15, Try.ntmps15
      go_wp2_with (first | (go_at_call 10; refine HO.out.mono ?_; rintro e w1 ⟨hb1, vo, rfl, ho1⟩; have HB1 := Lib.hid hb1; clear hb1 ho1))
      go_ret
      exact ⟨HB1.out, rfl⟩
  · have h1' : (er != 0) = true := by simpa using h1
    clear hno h1
    go_enter Try.func15, Try.ntmps15
    go_wp2_with (first | (go_at_call 10; refine HO.out.mono ?_; rintro e w1 ⟨hb1, vo, rfl, ho1⟩; have HB1 := Lib.hid hb1; clear hb1 ho1))
    go_ret
    exact ⟨HB1.out, rfl⟩
theorem below15 (w0 : World) (vn vd : Value) (nm : List ByteArray) (needs : List (List ByteArray)) (x : Int) (hn : StrRow w0 vn nm) (hd : NStr w0 vd needs) (hll : ∀ x ∈ needs, x.length ≤ 1000) (hnl : nm.length ≤ 1000000) :
    Calls Try.prog 15 #[vn, vd, .int .i64 x] w0 fun e w' => BelowPost w0 nm needs x e w' := by
  by_cases h : (orderR nm needs).2.2 = 0 ∧ 0 ≤ x ∧ x < (nm.length : Int)
  · obtain ⟨t, rfl⟩ : ∃ t : Nat, x = (t : Int) := ⟨x.toNat, by omega⟩
    refine (below15_ok w0 vn vd nm needs t hn hd hll hnl h.1 (by omega)).mono fun e w' hh => ?_
    unfold BelowPost belowR
    rw [if_pos h, Int.toNat_natCast]
    exact hh
  · refine (below15_none w0 vn vd nm needs x hn hd hll hnl h).mono fun e w' hh => ?_
    unfold BelowPost belowR
    rw [if_neg h]
    exact ⟨hh.1, _, hh.2, rfl, .inl ⟨rfl, rfl⟩⟩
theorem rbelow16_none (w0 : World) (vn vd : Value) (nm : List ByteArray) (needs : List (List ByteArray)) (x : Int) (hn : StrRow w0 vn nm) (hd : NStr w0 vd needs) (hll : ∀ x ∈ needs, x.length ≤ 1000) (hnl : nm.length ≤ 1000000) (hno : ¬ ((orderR nm needs).2.2 = 0 ∧ 0 ≤ x ∧ x < (nm.length : Int))) :
    Calls Try.prog 16 #[vn, vd, .int .i64 x] w0 fun e w' => Below w0.heap.size w0 w' ∧ e = .returned (.slice none 0 0) := by
  have HO := Lib.hid (order11 w0 vn vd nm needs hn hd hll hnl)
  unfold OrderPost at HO
  generalize orderR nm needs = r at HO hno
  obtain ⟨out, at_, er⟩ := r
  dsimp only at HO hno
  obtain ⟨an, cn, rfl, hn1, hn2, hn3⟩ := hn
  clear hn3
  by_cases h1 : er = 0
  · have h1' : (er != 0) = false := by simpa using h1
    by_cases h2 : x < 0
    · clear hno h1
      go_enter Try.func16, Try.ntmps16
      go_wp2_with (first | (go_at_call 11; refine HO.out.mono ?_; rintro e w1 ⟨hb1, vo, rfl, ho1⟩; have HB1 := Lib.hid hb1; clear hb1 ho1))
      go_ret
      exact ⟨HB1.out, rfl⟩
    · have h3 : (nm.length : Int) ≤ x := by
        apply Classical.byContradiction
        intro h
        exact hno ⟨h1, by omega, by omega⟩
      clear hno h1
      go_enter Try.func16, Try.ntmps16
      go_wp2_with (first | (go_at_call 11; refine HO.out.mono ?_; rintro e w1 ⟨hb1, vo, rfl, ho1⟩; have HB1 := Lib.hid hb1; clear hb1 ho1))
      go_ret
      exact ⟨HB1.out, rfl⟩
  · have h1' : (er != 0) = true := by simpa using h1
    clear hno h1
    go_enter Try.func16, Try.ntmps16
    go_wp2_with (first | (go_at_call 11; refine HO.out.mono ?_; rintro e w1 ⟨hb1, vo, rfl, ho1⟩; have HB1 := Lib.hid hb1; clear hb1 ho1))
    go_ret
    exact ⟨HB1.out, rfl⟩
end Go.Proofs.Ytfhmfdmcdmcaiaa
