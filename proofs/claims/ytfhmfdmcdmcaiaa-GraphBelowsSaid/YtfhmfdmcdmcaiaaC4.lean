/- The walk of GraphOrders. -/
import Derived.Test.YtfhmfdmcdmcaiaaC3
namespace Go.Proofs.Ytfhmfdmcdmcaiaa
open Go Go.RowKit Go.Sort
set_option maxHeartbeats 4000000
set_option maxRecDepth 100000

theorem light {nm : List ByteArray} {needs : List (List ByteArray)} (h : heavyP nm needs = false) : nm.length ≤ 12 ∧ needs.length ≤ 20 ∧ ∀ l ∈ needs, l.length ≤ 40 := by
  unfold heavyP at h
  rw [Bool.or_eq_false_iff, Bool.or_eq_false_iff, List.any_eq_false] at h
  obtain ⟨⟨h1, h2⟩, h3⟩ := h
  simp at h1 h2
  exact ⟨h1, h2, fun l hl => by have := h3 l hl; simp at this; exact this⟩
theorem IntR.at {w w' : World} {v : Value} {l : List Int} (h : IntR w v l) (hb : Below w.heap.size w w') : IntR w' v l := h.kept (fun b _ hl _ => hb.block b hl)
theorem GraphOrders_any (vn : Value) (nm : List ByteArray) (vd : Value) (needs : List (List ByteArray)) (w0 : World) (hn0 : StrRow w0 vn nm) (hd0 : NStr w0 vd needs) :
    Calls Try.prog 3 #[vn, vd] w0 fun e w' => e = .returned (.bool true) ∧ Below w0.heap.size w0 w' := by
  have hn : ∀ w, Below w0.heap.size w0 w → StrRow w vn nm := fun w hw => hn0.below hw
  have hd : ∀ w, Below w0.heap.size w0 w → NStr w vd needs := fun w hw => hd0.below hw
  clear hn0 hd0
  have HH := Lib.hid (heavy8 w0 vn vd nm needs (hn _ (Below.refl _ _)) (hd _ (Below.refl _ _)))
  obtain ⟨hv, hhv⟩ : ∃ hv, heavyP nm needs = hv := ⟨_, rfl⟩
  have HHV := Lib.hid hhv
  rw [hhv] at HH
  clear hhv
  cases hv with
  | true =>
    clear hn hd
    go_enter Try.func3, Try.ntmps3
    go_wp2_with (first | (go_at_call 8; refine HH.out.mono ?_; rintro e w6 ⟨rfl, hw6⟩; obtain rfl := hw6.symm) | (go_at_call 9; refine (awake9 _).mono ?_; rintro e w7 ⟨rfl, hb7⟩; have HB7 := Lib.hid hb7; clear hb7))
    go_ret
    exact ⟨rfl, HB7.out⟩
  | false =>
    obtain ⟨l1, l2, l3⟩ := light HHV.out
    have HO := Lib.hid (order10 w0 vn vd nm needs (hn _ (Below.refl _ _)) (hd _ (Below.refl _ _)) (fun x hx => by have := l3 x hx; omega) (by omega))
    have HR := Lib.hid (fun w hw => order11 w vn vd nm needs (hn w hw) (hd w hw) (fun x hx => by have := l3 x hx; omega) (by omega))
    clear hn hd l3
    unfold OrderPost at HO HR
    generalize orderR nm needs = r at HO HR
    obtain ⟨out, at_, er⟩ := r
    dsimp only at HO HR
    go_enter Try.func3, Try.ntmps3
    go_wp2_with (first | (go_at_call 8; refine HH.out.mono ?_; rintro e w6 ⟨rfl, hw6⟩; obtain rfl := hw6.symm) | (go_at_call 10; refine HO.out.mono ?_; rintro e w1 ⟨hb1, vo, rfl, ho1⟩; have HB1 := Lib.hid hb1; have HI1 := Lib.hid (ints_iv ho1); clear hb1 ho1) | (go_at_call 11; refine (HR.out w1 HB1.out).mono ?_; rintro e w2 ⟨hb2, vo2, rfl, ho2⟩; have HB2 := Lib.hid hb2; have HI2 := Lib.hid (ints_iv ho2); have HSM := Lib.hid (same12 w2 vo vo2 _ _ (HI1.out.at HB2.out) HI2.out); rw [decide_eq_true rfl] at HSM; clear hb2 ho2) | (go_at_call 12; refine HSM.out.mono ?_; rintro e w3 ⟨rfl, hb3⟩; have HB3 := Lib.hid hb3; clear hb3) | (go_at_call 13; refine (num13 _ _).mono ?_; rintro e w6 ⟨rfl, hw6⟩; obtain rfl := hw6.symm) | (go_at_call 9; refine (awake9 _).mono ?_; rintro e w7 ⟨rfl, hb7⟩; have HB7 := Lib.hid hb7; clear hb7))
    go_ret
    have s1 := HB1.out.size
    have s2 := HB2.out.size
    have s3 := HB3.out.size
    exact ⟨rfl, HB1.out.trans ((HB2.out.mono s1).trans ((HB3.out.mono (by omega)).trans (HB7.out.mono (by omega))))⟩
end Go.Proofs.Ytfhmfdmcdmcaiaa
