/- The walk of GraphTurned. -/
import Derived.Test.YtfhmfdmcdmcaiaaE0
namespace Go.Proofs.Ytfhmfdmcdmcaiaa
open Go Go.RowKit Go.Sort
set_option maxHeartbeats 4000000
set_option maxRecDepth 100000

theorem own_ge {w : World} {B e size n : Nat} {v : Value} {xs : List Value} (h : w.ownsRow B e size v n xs) : ∀ k, v.ownBlock = some k → B ≤ k := by
  intro k hk
  rcases h.2 with ⟨e1, _⟩ | ⟨g, cap, cur, e1, hB, _⟩
  · rw [e1] at hk; cases hk
  · rw [e1] at hk
    have : g = k := by simpa [Value.ownBlock] using hk
    omega
/-- one name more, in a row that was made behind we -/
theorem row_app {we wr w2 : World} {q c g cap : Nat} {a : Option Addr} {xs ys : List Value} {o : Obj} (hb : Below we.heap.size we wr) (h : wr.ownsRow we.heap.size 9 1 (.slice a q c) q xs) (_ : w2.ownsRow we.heap.size 9 1 (.slice (some ⟨g, 0, none⟩) (q + 1) cap) (q + 1) ys) (hg : (wr.alloc o).grownBy w2 (Value.slice a q c).ownBlock) : Below we.heap.size we w2 :=
  (hb.alloc hb.size o).grown hg (by have := hb.size; simp; omega) (own_ge h)
theorem GraphTurned_any (vn : Value) (nm : List ByteArray) (vd : Value) (needs : List (List ByteArray)) (w0 : World) (hn0 : StrRow w0 vn nm) (hd0 : NStr w0 vd needs) :
    Calls Try.prog 5 #[vn, vd] w0 fun e w' => e = .returned (.bool true) ∧ Below w0.heap.size w0 w' := by
  have HH := Lib.hid (heavy8 w0 vn vd nm needs hn0 hd0)
  have HN0 := Lib.hid hn0
  have HD0 := Lib.hid hd0
  clear hn0 hd0
  obtain ⟨hv, hhv⟩ : ∃ hv, heavyP nm needs = hv := ⟨_, rfl⟩
  have HHV := Lib.hid hhv
  rw [hhv] at HH
  clear hhv
  cases hv with
  | true =>
    go_enter Try.func5, Try.ntmps5
    go_wp2_with (first | (go_at_call 8; refine HH.out.mono ?_; rintro e w6 ⟨rfl, hw6⟩; obtain rfl := hw6.symm) | (go_at_call 9; refine (awake9 _).mono ?_; rintro e w7 ⟨rfl, hb7⟩; have HB7 := Lib.hid hb7; clear hb7))
    go_ret
    exact ⟨rfl, HB7.out⟩
  | false =>
    obtain ⟨l1, l2, l3⟩ := light HHV.out
    have HL3 := Lib.hid l3
    obtain ⟨ad, cd, rfl, hd1, hd2, hd3⟩ := HD0.out
    unfold maxLen at hd2
    have HZ := Lib.hid HN0.out
    clear l3 hd3
    obtain ⟨j9, hj9, hz90, hz91, hz92⟩ := info_parts info9
    obtain ⟨j2, hj2, hz20, hz21, hz22⟩ := info_parts info22
    go_enter Try.func5, Try.ntmps5
    go_wp2_with (first | (go_at_call 8; refine HH.out.mono ?_; rintro e w6 ⟨rfl, hw6⟩; obtain rfl := hw6.symm))
    go_loopw [5, 6] (fun v5 v6 wr => ∃ (i : Nat) (at_ : Option Addr) (ct : Nat), i ≤ needs.length ∧ v5 = .slice at_ i ct ∧ v6 = iv i ∧ Hid (Below w0.heap.size w0 wr ∧ NStrR wr w0.heap.size (.slice at_ i ct) ((needs.take i).map turnL))) (fun _ v6 _ => needs.length - (intOf v6).toNat)
    case atStart => exact ⟨0, none, 0, by omega, rfl, rfl, Lib.hid ⟨Below.refl _ _, [], rfl, ⟨rfl, .inl ⟨rfl, rfl⟩⟩, fun i u x hu => by simp at hu⟩⟩
    case round =>
      obtain ⟨i, ati, ct, hi, rfl, rfl, HW⟩ := hrel
      by_cases hil : i < needs.length
      · have hi1 : (i : Int) < (needs.length : Int) := by omega
        obtain ⟨ss, hss⟩ : ∃ ss, needs[i]? = some ss := ⟨_, List.getElem?_eq_getElem hil⟩
        have hsl := HL3.out ss (List.mem_of_getElem? hss)
        obtain ⟨bd, od, u, rfl, f0, hu⟩ := HD0.out.row i ss hss
        have HF0 := Lib.hid f0
        obtain ⟨au, cu, rfl, hu1, hu2, hu3⟩ := hu
        unfold maxLen at hu2
        have HU3 := Lib.hid hu3
        have HSS := Lib.hid hss
        have f1 := (HW.out.1.cell (World.block_lt_of_cell? w0 _ f0)).trans f0
        obtain ⟨we, hwe⟩ : ∃ we : World, we = wr := ⟨_, rfl⟩
        subst hwe
        clear hss hu3 f0
        go_wp2_with fail
        go_loopw [7, 8] (fun v7 v8 wr => ∃ (d : Nat) (a7 : Option Addr) (c7 : Nat), d ≤ ss.length ∧ v7 = .slice a7 (2 * d) c7 ∧ v8 = .int .i64 ((ss.length : Int) - 1 - (d : Int)) ∧ Hid (Below we.heap.size we wr ∧ wr.ownsRow we.heap.size 9 1 (.slice a7 (2 * d) c7) (2 * d) ((dbl (ss.reverse.take d)).map Value.string))) (fun _ v8 _ => (intOf v8 + 1).toNat)
        case atStart => exact ⟨0, none, 0, by omega, rfl, by simp, Lib.hid ⟨Below.refl _ _, ⟨rfl, .inl ⟨rfl, rfl⟩⟩⟩⟩
        case round =>
          obtain ⟨d, a7, c7, hd, rfl, rfl, HV⟩ := hrel
          by_cases hdl : d < ss.length
          · obtain ⟨k, hk⟩ : ∃ k : Nat, k + d + 1 = ss.length := ⟨ss.length - 1 - d, by omega⟩
            have ek : (ss.length : Int) - 1 - (d : Int) = (k : Int) := by omega
            have hk0 : ¬ (k : Int) < 0 := by omega
            have hk1 : (k : Int) < (ss.length : Int) := by omega
            obtain ⟨s, hs⟩ : ∃ s, ss[k]? = some s := ⟨_, List.getElem?_eq_getElem (by omega)⟩
            rcases HU3.out with h0 | ⟨bs, os, rfl, hcs⟩
            · rw [h0] at hs; simp at hs
            have g0 := hcs k s hs
            have hrs : ss.reverse[d]? = some s := by
              rw [List.getElem?_reverse (by omega), show ss.length - 1 - d = k by omega]; exact hs
            have hb0 := HW.out.1.trans (HV.out.1.mono HW.out.1.size)
            have g1 := (hb0.cell (World.block_lt_of_cell? w0 _ g0)).trans g0
            have f2 := (hb0.cell (World.block_lt_of_cell? w0 _ HF0.out)).trans HF0.out
            rw [ek]
            obtain ⟨q, hq⟩ : ∃ q, 2 * d = q := ⟨_, rfl⟩
            have HQ := Lib.hid hq
            rw [hq] at HV ⊢
            have hqb : q ≤ 80 := by omega
            have HEX : Hid ((dbl (ss.reverse.take (d + 1))).map Value.string = (dbl (ss.reverse.take d)).map Value.string ++ [.string s] ++ [.string s]) := Lib.hid (by
              rw [List.take_add_one, hrs]
              simp only [Option.toList]
              rw [dbl_snoc]
              simp)
            have HKD := Lib.hid hk
            have HB0 := Lib.hid hb0
            have HG0 := Lib.hid g0
            have HSZ := Lib.hid HV.out.1.size
            have HSW := Lib.hid HW.out.1.size
            have hO7 := HV.out.2
            have HRA := Lib.hid (fun (w2 : World) (g cap : Nat) (ys : List Value) (o : Obj) hown hg => row_app (w2 := w2) (g := g) (cap := cap) (ys := ys) (o := o) HV.out.1 hO7 hown hg)
            generalize (dbl (ss.reverse.take d)).map Value.string = xs at hO7 HEX HV HRA
            clear hq hs hrs hcs hb0 g0 hk
            have HO7 := Lib.hid hO7
            clear hO7
            go_wp2_with (first | (at_builtin; refine wpList_append_lies _ rfl _ _ _ rfl we.heap.size 9 j9 _ 1 16 Try.underlying22 hj9 hz90 hz91 hz92 rfl (by decide) _ q _ rfl (HO7.out.alloc _) ⟨wr.heap.size, 0, none⟩ 1 1 [.string s] rfl rfl (World.news_of_block (cs := #[.string s]) (t := 9) (fr := (0, 0)) (heap_alloc_new wr _)) (by simp [Value.oneCell']) (by omega) (by unfold maxLen; omega) (by omega) (by have := HSZ.out; simp; omega) (wr.heap.size + 1) (by simp) ?_; intro gg cap w2 hown2 hgrow hat hlt2; have hb2 := HRA.out w2 gg cap _ _ hown2 hgrow; have HO8 := Lib.hid hown2; have HB2 := Lib.hid hb2; have hc0 := HW.out.1.trans (hb2.mono HSW.out); have g2 := (hc0.cell (World.block_lt_of_cell? w0 _ HG0.out)).trans HG0.out; have f3 := (hc0.cell (World.block_lt_of_cell? w0 _ HF0.out)).trans HF0.out; clear hown2 hgrow hat hlt2 hb2 hc0) | (at_builtin; refine wpList_append_lies _ rfl _ _ _ rfl we.heap.size 9 j9 _ 1 16 Try.underlying22 hj9 hz90 hz91 hz92 rfl (by decide) _ (q + 1) _ rfl (HO8.out.alloc _) ⟨w2.heap.size, 0, none⟩ 1 1 [.string s] rfl rfl (World.news_of_block (cs := #[.string s]) (t := 9) (fr := (0, 0)) (heap_alloc_new w2 _)) (by simp [Value.oneCell']) (by omega) (by unfold maxLen; omega) (by omega) (by have := HB2.out.size; simp; omega) (w2.heap.size + 1) (by simp) ?_; intro g3 cap3 w3 hown3 hgrow3 hat3 hlt3; have hb3 := row_app HB2.out HO8.out hown3 hgrow3; have HO9 := Lib.hid hown3; have HB3 := Lib.hid hb3; clear hown3 hgrow3 hat3 hlt3 hb3))
            refine ⟨⟨d + 1, some ⟨g3, 0, none⟩, cap3, by omega, ?_, ?_, Lib.hid ⟨HB3.out, ?_⟩⟩, by simp [intOf] <;> omega⟩
            · rw [show 2 * (d + 1) = q + 1 + 1 by have := HQ.out; omega]
            · have := HKD.out; go_num
            · rw [show 2 * (d + 1) = q + 1 + 1 by have := HQ.out; omega, HEX.out]; exact HO9.out
          · obtain rfl : d = ss.length := by omega
            have ek : (ss.length : Int) - 1 - (ss.length : Int) = -1 := by omega
            rw [ek]
            obtain ⟨us, hu0, hu1', hu2'⟩ := HW.out.2
            have hst : StrR wr (.slice a7 (2 * ss.length) c7) (turnL ss) := by
              have := HV.out.2
              rw [show ss.reverse.take ss.length = ss.reverse by rw [List.take_of_length_le (by simp)]] at this
              exact StrR.own this
            have hli : ((needs.take i).map turnL).length = i := by rw [List.length_map, List.length_take]; omega
            have HB5 := Lib.hid (HW.out.1.trans (HV.out.1.mono HW.out.1.size))
            have HUS := Lib.hid (own_below hu1' HV.out.1)
            rw [hli] at HUS
            have HSZ5 := Lib.hid HB5.out.size
            have HNX := Lib.hid (fun (w2 : World) (gg cap : Nat) (hown : w2.ownsRow w0.heap.size 22 1 (.slice (some ⟨gg, 0, none⟩) (i + 1) cap) (i + 1) (us ++ [.slice a7 (2 * ss.length) c7])) (hg : (wr.alloc (.cells #[.slice a7 (2 * ss.length) c7] 22)).grownBy w2 (Value.slice ati i ct).ownBlock) =>
              NStrR.app (w := wr) (l := (needs.take i).map turnL) (by rw [hu0]) (by rw [hli]; exact HUS.out) (fun k u x h1 h2 => (hu2' k u x h1 h2).kept (fun b _ hl _ => HV.out.1.block b hl)) hst ((Below.refl _ _).alloc (Nat.le_refl _) _) (by rw [hli]; exact hown) hg)
            rw [hli] at HNX
            have HNB := Lib.hid (fun (w2 : World) (hg : (wr.alloc (.cells #[.slice a7 (2 * ss.length) c7] 22)).grownBy w2 (Value.slice ati i ct).ownBlock) => (HB5.out.alloc HSZ5.out (.cells #[.slice a7 (2 * ss.length) c7] 22)).grown hg (by have := HSZ5.out; simp; omega) (own_ge HUS.out))
            clear hu0 hu1' hu2' hst hli
            obtain ⟨q, hq⟩ : ∃ q, 2 * ss.length = q := ⟨_, rfl⟩
            rw [hq] at HNX HNB ⊢
            clear hq HV
            go_wp2_with (first | (at_builtin; refine wpList_append_lies _ rfl _ _ _ rfl w0.heap.size 22 j2 _ 1 24 Try.underlying23 hj2 hz20 hz21 hz22 rfl (by decide) _ i _ rfl (HUS.out.alloc _) ⟨wr.heap.size, 0, none⟩ 1 1 [.slice a7 q c7] rfl rfl (World.news_of_block (cs := #[.slice a7 q c7]) (t := 22) (fr := (0, 0)) (heap_alloc_new wr _)) (by simp [Value.oneCell']) (by omega) (by unfold maxLen; omega) (by omega) (by have := HSZ5.out; simp; omega) (wr.heap.size + 1) (by simp) ?_; intro gg cap w2 hown2 hgrow hat hlt2; have hx1 := HNX.out w2 gg cap hown2 hgrow; have hx2 := HNB.out w2 hgrow; have HX1 := Lib.hid hx1; have HX2 := Lib.hid hx2; clear hown2 hgrow hat hlt2 hx1 hx2))
            refine ⟨⟨i + 1, some ⟨gg, 0, none⟩, cap, by omega, rfl, by go_num, Lib.hid ⟨HX2.out, ?_⟩⟩, by simp [intOf]; omega⟩
            have := HX1.out
            rw [List.take_add_one, HSS.out]
            simpa using this
      · obtain rfl : i = needs.length := by omega
        have hns := HW.out.2
        rw [List.take_length] at hns
        have HNS := Lib.hid hns
        have HO1 := Lib.hid (order10 wr vn (.slice ad needs.length cd) nm needs (HZ.out.below HW.out.1) (HD0.out.below HW.out.1) (fun x hx => by have := HL3.out x hx; omega) (by omega))
        have HO2 := Lib.hid (fun (w1 : World) (hb : Below wr.heap.size wr w1) => order10 w1 vn (.slice ati needs.length ct) nm (needs.map turnL) (HZ.out.below (HW.out.1.trans (hb.mono HW.out.1.size))) (HNS.out.any hb).str (fun x hx => by
          obtain ⟨y, hy, rfl⟩ := List.mem_map.1 hx
          have := HL3.out y hy
          rw [turn_len]; omega) (by omega))
        unfold OrderPost at HO1 HO2
        rw [orderR_turn] at HO2
        generalize orderR nm needs = r at HO1 HO2
        obtain ⟨out, p, er⟩ := r
        dsimp only at HO1 HO2
        clear hns
        go_wp2_with (first | (go_at_call 10; first | (refine HO1.out.mono ?_; rintro e w1 ⟨hb1, vo, rfl, ho1⟩; have HB1 := Lib.hid hb1; have HI1 := Lib.hid (ints_iv ho1); clear hb1 ho1 HO1) | (refine (HO2.out w1 HB1.out).mono ?_; rintro e w2 ⟨hb2, vo2, rfl, ho2⟩; have HB2 := Lib.hid hb2; have HI2 := Lib.hid (ints_iv ho2); have HSM := Lib.hid (same12 w2 vo vo2 _ _ (HI1.out.at HB2.out) HI2.out); rw [decide_eq_true rfl] at HSM; clear hb2 ho2)) | (go_at_call 12; refine HSM.out.mono ?_; rintro e w3 ⟨rfl, hb3⟩; have HB3 := Lib.hid hb3; clear hb3) | (go_at_call 13; refine (num13 _ _).mono ?_; rintro e w6 ⟨rfl, hw6⟩; obtain rfl := hw6.symm) | (go_at_call 9; refine (awake9 _).mono ?_; rintro e w7 ⟨rfl, hb7⟩; have HB7 := Lib.hid hb7; clear hb7))
        go_ret
        have s0 := HW.out.1.size
        have s1 := HB1.out.size
        have s2 := HB2.out.size
        have s3 := HB3.out.size
        exact ⟨rfl, HW.out.1.trans ((HB1.out.mono s0).trans ((HB2.out.mono (by omega)).trans ((HB3.out.mono (by omega)).trans (HB7.out.mono (by omega)))))⟩
end Go.Proofs.Ytfhmfdmcdmcaiaa
