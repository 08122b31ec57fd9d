/- The walk of KindsInfers. -/
import Derived.Test.YtcelpmojhjnggaaQ4
import Derived.Test.YtcelpmojhjnggaaM0
namespace Go.Proofs.Ytcelpmojhjnggaa
open Go Go.RowKit Go.Sort Go.Deep KindsP
set_option maxHeartbeats 4000000
set_option maxRecDepth 100000

theorem KindsInfers_x (w : World) (d dd : Nat) (an ap aa : Option Addr) (cn cp ca : Nat) (ns : List ByteArray) (ps l : List Ty) (hn : NamesIs w (.slice an ns.length cn) ns) (hp : RowOf (Lies w d) w (.slice ap ps.length cp) ps) (ha : RowOf (Lies w dd) w (.slice aa l.length ca) l) (hnl : ns.length ≤ 9223372036854775807) :
    Calls Try.prog 3 #[.slice an ns.length cn, .slice ap ps.length cp, .slice aa l.length ca] w fun e w' => e = .returned (.bool true) ∧ Below w.heap.size w w' := by
  have HT1 := Lib.hid (great_any d w _ ps hp)
  have HT2 := Lib.hid (fun (W : World) (hb : Below w.heap.size w W) => great_any dd W _ l (ha.below hb))
  have HN := Lib.hid hn
  have HP := Lib.hid hp
  have HA := Lib.hid ha
  clear hn hp ha
  cases hg1 : greatB ps
  · rw [hg1] at HT1
    have h1 := Lib.hid hg1
    clear hg1
    cases hg2 : greatB l
    · rw [hg2] at HT2
      have h2 := Lib.hid hg2
      clear hg2
      by_cases h50 : 50 < ns.length
      · have h50' : (50 : Int) < (ns.length : Int) := by omega
        go_enter Try.func3, Try.ntmps3
        go_wp2_with (first | (go_at_call_of 12 (Value.slice ap ps.length cp); refine HT1.out.mono ?_; rintro e w1 ⟨rfl, hb1⟩; have HB1 := Lib.hid hb1; clear hb1) | (go_at_call_of 12 (Value.slice aa l.length ca); refine (HT2.out w1 HB1.out).mono ?_; rintro e w2 ⟨rfl, hb2⟩; have HB2 := Lib.hid (HB1.out.trans (hb2.mono HB1.out.size)); clear hb2) | (go_at_call 13; refine (awake_any _).mono ?_; rintro e w9 ⟨rfl, hb9⟩; have HB3 := Lib.hid (HB2.out.trans (hb9.mono HB2.out.size)); clear hb9))
        go_ret
        exact ⟨rfl, HB3.out⟩
      · have h50' : ¬ (50 : Int) < (ns.length : Int) := by omega
        have hz1 := great_siz ps h1.out
        have hz2 := great_siz l h2.out
        have HC14 := Lib.hid (fun (W : World) (hb : Below w.heap.size w W) => infer_any W d dd _ _ _ ns ps l (HN.out.keep (below_keep hb)) (HP.out.below hb) (HA.out.below hb) (by omega) (by omega) (by omega))
        have HC15 := Lib.hid (fun (W : World) (hb : Below w.heap.size w W) => infer7_any W d dd _ _ _ ns ps l (HN.out.keep (below_keep hb)) (HP.out.below hb) (HA.out.below hb) (by omega) (by omega) (by omega))
        cases hR : inferT ns ps l with
        | none =>
          rw [hR] at HC14 HC15
          clear hR
          go_enter Try.func3, Try.ntmps3
          go_wp2_with (first | (go_at_call_of 12 (Value.slice ap ps.length cp); refine HT1.out.mono ?_; rintro e w1 ⟨rfl, hb1⟩; have HB1 := Lib.hid hb1; clear hb1) | (go_at_call_of 12 (Value.slice aa l.length ca); refine (HT2.out w1 HB1.out).mono ?_; rintro e w2 ⟨rfl, hb2⟩; have HB2 := Lib.hid (HB1.out.trans (hb2.mono HB1.out.size)); clear hb2) | (go_at_call 14; refine (HC14.out w2 HB2.out).mono ?_; rintro e w3 ⟨hb3, rfl⟩; have HB3 := Lib.hid (HB2.out.trans (hb3.mono HB2.out.size)); clear hb3) | (go_at_call 15; refine (HC15.out w3 HB3.out).mono ?_; rintro e w4 ⟨hb4, rfl⟩; have HB4 := Lib.hid (HB3.out.trans (hb4.mono HB3.out.size)); clear hb4) | (go_at_call 16; refine (All_any 0 0 w4 _ _ [] [] (row_nil _ _) (row_nil _ _) (fun w v v' t t' h => h.elim)).mono ?_; rintro e w5 ⟨rfl, hb5⟩; rw [sameL]; have HB5 := Lib.hid (HB4.out.trans (hb5.mono HB4.out.size)); clear hb5) | (go_at_call 13; refine (awake_any _).mono ?_; rintro e w9 ⟨rfl, hb9⟩; have HB6 := Lib.hid (HB5.out.trans (hb9.mono HB5.out.size)); clear hb9))
          go_ret
          exact ⟨rfl, HB6.out⟩
        | some ts =>
          rw [hR] at HC14 HC15
          clear hR
          go_enter Try.func3, Try.ntmps3
          go_wp2_with (first | (go_at_call_of 12 (Value.slice ap ps.length cp); refine HT1.out.mono ?_; rintro e w1 ⟨rfl, hb1⟩; have HB1 := Lib.hid hb1; clear hb1) | (go_at_call_of 12 (Value.slice aa l.length ca); refine (HT2.out w1 HB1.out).mono ?_; rintro e w2 ⟨rfl, hb2⟩; have HB2 := Lib.hid (HB1.out.trans (hb2.mono HB1.out.size)); clear hb2) | (go_at_call 14; refine (HC14.out w2 HB2.out).mono ?_; rintro e w3 ⟨hb3, u3, rfl, hu3⟩; have HU3 := Lib.hid (hu3.row (LiesIn.lies dd)); have HB3 := Lib.hid (HB2.out.trans (hb3.mono HB2.out.size)); clear hb3 hu3) | (go_at_call 15; refine (HC15.out w3 HB3.out).mono ?_; rintro e w4 ⟨hb4, u4, rfl, hu4⟩; have HU4 := Lib.hid hu4; have HU34 := Lib.hid (HU3.out.below hb4); have HB4 := Lib.hid (HB3.out.trans (hb4.mono HB3.out.size)); clear hb4 hu4) | (go_at_call 16; refine (All_any dd (dd + 1) w4 _ _ ts ts HU34.out HU4.out (fun w v v' t t' h h' => Same_any dd (dd + 1) w v v' t t' h h')).mono ?_; rintro e w5 ⟨rfl, hb5⟩; rw [sameL_refl]; have HB5 := Lib.hid (HB4.out.trans (hb5.mono HB4.out.size)); clear hb5) | (go_at_call 13; refine (awake_any _).mono ?_; rintro e w9 ⟨rfl, hb9⟩; have HB6 := Lib.hid (HB5.out.trans (hb9.mono HB5.out.size)); clear hb9))
          go_ret
          exact ⟨rfl, HB6.out⟩
    · rw [hg2] at HT2
      clear hg2
      go_enter Try.func3, Try.ntmps3
      go_wp2_with (first | (go_at_call_of 12 (Value.slice ap ps.length cp); refine HT1.out.mono ?_; rintro e w1 ⟨rfl, hb1⟩; have HB1 := Lib.hid hb1; clear hb1) | (go_at_call_of 12 (Value.slice aa l.length ca); refine (HT2.out w1 HB1.out).mono ?_; rintro e w2 ⟨rfl, hb2⟩; have HB2 := Lib.hid (HB1.out.trans (hb2.mono HB1.out.size)); clear hb2) | (go_at_call 13; refine (awake_any _).mono ?_; rintro e w9 ⟨rfl, hb9⟩; have HB3 := Lib.hid (HB2.out.trans (hb9.mono HB2.out.size)); clear hb9))
      go_ret
      exact ⟨rfl, HB3.out⟩
  · rw [hg1] at HT1
    clear hg1
    go_enter Try.func3, Try.ntmps3
    go_wp2_with (first | (go_at_call_of 12 (Value.slice ap ps.length cp); refine HT1.out.mono ?_; rintro e w1 ⟨rfl, hb1⟩; have HB1 := Lib.hid hb1; clear hb1) | (go_at_call 13; refine (awake_any _).mono ?_; rintro e w9 ⟨rfl, hb9⟩; have HB3 := Lib.hid (HB1.out.trans (hb9.mono HB1.out.size)); clear hb9))
    go_ret
    exact ⟨rfl, HB3.out⟩
theorem KindsInfers_any (vn : Value) (ns : List ByteArray) (vp : Value) (d : Nat) (ps : List Ty) (va : Value) (dd : Nat) (l : List Ty) (w : World) (hn : NamesIs w vn ns) (hp : RowOf (Lies w d) w vp ps) (ha : RowOf (Lies w dd) w va l) :
    Calls Try.prog 3 #[vn, vp, va] w fun e w' => e = .returned (.bool true) ∧ Below w.heap.size w w' := by
  obtain ⟨⟨an, cn, rfl, hn1, hn2⟩, hn3⟩ := id hn
  obtain ⟨ap, cp, rfl, _⟩ := hp.form
  obtain ⟨aa, ca, rfl, _⟩ := ha.form
  exact KindsInfers_x w d dd an ap aa cn cp ca ns ps l hn hp ha hn1
end Go.Proofs.Ytcelpmojhjnggaa
