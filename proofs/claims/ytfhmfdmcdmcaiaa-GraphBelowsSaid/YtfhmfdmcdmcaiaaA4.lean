/- The walks of container/heap's down, Push and Pop over this heap. -/
import Derived.Test.YtfhmfdmcdmcaiaaA3
namespace Go.Proofs.Ytfhmfdmcdmcaiaa
open Go Go.RowKit
set_option maxHeartbeats 2000000
set_option maxRecDepth 100000

theorem dn_only {i c : Nat} (h : (i - 1) / 2 = c) (h0 : 0 < i) : i = 2 * c + 1 ∨ i = 2 * c + 2 := by omega
theorem down31 {base p : Nat} {vn : Value} {w0 w1 : World} {g0 : Option Nat} {h0 h1 : List Nat} {nm : List ByteArray} (H : HS base p vn w0 g0 h0 nm h1 w1) (hv : ∀ b, vn.ownBlock = some b → b < base) (i0 n : Nat) (hn : n ≤ h1.length) (hl : h1.length ≤ 1000) (hi : i0 ≤ 1000) (hd : DnOk nm h1 n i0) :
    Calls Try.prog 31 #[.iface 42 (.pointer (some ⟨p, 0, none⟩)), iv i0, iv n] w1 fun e w' => (∃ u, e = .returned u) ∧ ∃ h', HS base p vn w0 g0 h0 nm h' w' ∧ h'.length = h1.length ∧ (∀ i, 0 < i → i < n → ltN nm (h'.getD i 0) (h'.getD ((i - 1) / 2) 0) = false) ∧ ∀ k, n ≤ k → h'.getD k 0 = h1.getD k 0 := by
  have HH := Lib.hid H
  have HD := Lib.hid hd
  have HV := Lib.hid hv
  have mL := m_less
  have mS := m_swap
  clear H hd hv
  go_enter Try.func31, Try.ntmps31
  go_wp2_with fail
  go_loopw [7] (fun iv7 wr => ∃ (i : Nat) (h : List Nat), i ≤ 1000 ∧ h.length = h1.length ∧ iv7 = iv i ∧ Hid (HS base p vn w0 g0 h0 nm h wr) ∧ Hid (DnOk nm h n i) ∧ Hid (∀ k, n ≤ k → h.getD k 0 = h1.getD k 0)) (fun iv7 _ => 2000 - (intOf iv7).toNat)
  case atStart => exact ⟨i0, h1, hi, rfl, rfl, HH, HD, Lib.hid (fun _ _ => rfl)⟩
  case round =>
    obtain ⟨i, h, hi1, hhl, rfl, HR, HK, HE⟩ := hrel
    obtain ⟨c1, hc1⟩ : ∃ c1, 2 * i + 1 = c1 := ⟨_, rfl⟩
    have e1 : 2 * (i : Int) + 1 = (c1 : Int) := by omega
    have HC1 := Lib.hid hc1
    by_cases hcn : c1 < n
    · have b1 : (c1 : Int) < (n : Int) := by omega
      have b1' : ¬ (n : Int) ≤ (c1 : Int) := by omega
      have b2 : ¬ (c1 : Int) < 0 := by omega
      obtain ⟨c2, hc2⟩ : ∃ c2, c1 + 1 = c2 := ⟨_, rfl⟩
      have e2 : (c1 : Int) + 1 = (c2 : Int) := by omega
      have HC2 := Lib.hid hc2
      have hSW : ∀ c : Nat, c < n → c ≠ i → Hid (∀ (W : World) (hW : HS base p vn w0 g0 h0 nm h W), Calls Try.prog 73 #[.pointer (some ⟨p, 0, none⟩), iv i, iv c] W fun e w' => (∃ u, e = .returned u) ∧ HS base p vn w0 g0 h0 nm (swapL h i c) w') := fun c hc hne => Lib.hid (fun W hW => hW.swap HV.out i c (by omega) (by omega) (Ne.symm hne))
      have hLS : ∀ (x y : Nat) (b : Bool), x < n → y < n → ltN nm (h.getD x 0) (h.getD y 0) = b → Hid (∀ (W : World) (hW : HS base p vn w0 g0 h0 nm h W), Calls Try.prog 70 #[.pointer (some ⟨p, 0, none⟩), iv x, iv y] W fun e w' => e = .returned (.bool b) ∧ HS base p vn w0 g0 h0 nm h w') := fun x y b hx hy hb => Lib.hid (fun W hW => hW.less x y (by omega) (by omega) b hb)
      have hEX : ∀ c : Nat, c < n → n ≤ h.length → Hid (∀ k, n ≤ k → (swapL h i c).getD k 0 = h1.getD k 0) := fun c hc hnl => Lib.hid (fun k hk => by
        rw [swapL_get h i c k (by omega) (by omega), if_neg (by omega), if_neg (by omega)]; exact HE.out k hk)
      have hnh : n ≤ h.length := by omega
      by_cases hc2n : c2 < n
      · have b3 : (c2 : Int) < (n : Int) := by omega
        obtain ⟨s, hs⟩ : ∃ s, ltN nm (h.getD c2 0) (h.getD c1 0) = s := ⟨_, rfl⟩
        have HL1 := hLS c2 c1 s hc2n hcn hs
        have HSX := Lib.hid hs
        clear hs
        cases s with
        | true =>
          obtain ⟨b, hb⟩ : ∃ b, ltN nm (h.getD c2 0) (h.getD i 0) = b := ⟨_, rfl⟩
          have HL2 := hLS c2 i b hc2n (by omega) hb
          have HMIN := Lib.hid (show ∀ x, 0 < x → x < n → (x - 1) / 2 = i → ltN nm (h.getD x 0) (h.getD c2 0) = false from fun x h0 hx hp => by
            rcases dn_only hp h0 with e | e
            · have : x = c1 := by omega
              rw [this]
              cases hz : ltN nm (h.getD c1 0) (h.getD c2 0) with
              | false => rfl
              | true => have := ltN_tr nm hz HSX.out; rw [ltN_irr] at this; cases this
            · have : x = c2 := by omega
              rw [this]; exact ltN_irr _ _)
          have HB := Lib.hid hb
          have HSW := hSW c2 hc2n (by omega)
          have HEX := hEX c2 hc2n hnh
          clear hb hc1 hc2 hSW hLS hEX
          cases b with
          | false =>
            go_wp2_with (first | (go_at_call_of 70 (Value.pointer (some ⟨p, 0, none⟩)); first | (refine (HL1.out _ HR.out).mono ?_; rintro e w2 ⟨rfl, hs2⟩; have HS2 := Lib.hid hs2; clear hs2 HL1 HR) | (refine (HL2.out _ HS2.out).mono ?_; rintro e w3 ⟨rfl, hs3⟩; have HS3 := Lib.hid hs3; clear hs3 HL2)))
            go_ret
            exact ⟨⟨_, rfl⟩, h, HS3.out, hhl, dn_stop HK.out (fun x h0 hx hp => le_tr nm HB.out (HMIN.out x h0 hx hp)), HE.out⟩
          | true =>
            go_wp2_with (first | (go_at_call_of 70 (Value.pointer (some ⟨p, 0, none⟩)); first | (refine (HL1.out _ HR.out).mono ?_; rintro e w2 ⟨rfl, hs2⟩; have HS2 := Lib.hid hs2; clear hs2 HL1 HR) | (refine (HL2.out _ HS2.out).mono ?_; rintro e w3 ⟨rfl, hs3⟩; have HS3 := Lib.hid hs3; clear hs3 HL2)) | (go_at_call 73; refine (HSW.out _ HS3.out).mono ?_; rintro e w4 ⟨⟨u, rfl⟩, hs4⟩; have HS4 := Lib.hid hs4; clear hs4))
            exact ⟨⟨c2, swapL h i c2, by omega, by rw [swapL_len]; exact hhl, rfl, HS4, Lib.hid (dn_step HK.out hnh hc2n (by omega) (by have := HC1.out; have := HC2.out; omega) HB.out HMIN.out), HEX⟩, by simp [intOf]; have := HC1.out; have := HC2.out; omega⟩
        | false =>
          obtain ⟨b, hb⟩ : ∃ b, ltN nm (h.getD c1 0) (h.getD i 0) = b := ⟨_, rfl⟩
          have HL2 := hLS c1 i b hcn (by omega) hb
          have HMIN := Lib.hid (show ∀ x, 0 < x → x < n → (x - 1) / 2 = i → ltN nm (h.getD x 0) (h.getD c1 0) = false from fun x h0 hx hp => by
            rcases dn_only hp h0 with e | e
            · have : x = c1 := by omega
              rw [this]; exact ltN_irr _ _
            · have : x = c2 := by omega
              rw [this]; exact HSX.out)
          have HB := Lib.hid hb
          have HSW := hSW c1 hcn (by omega)
          have HEX := hEX c1 hcn hnh
          clear hb hc1 hc2 hSW hLS hEX
          cases b with
          | false =>
            go_wp2_with (first | (go_at_call_of 70 (Value.pointer (some ⟨p, 0, none⟩)); first | (refine (HL1.out _ HR.out).mono ?_; rintro e w2 ⟨rfl, hs2⟩; have HS2 := Lib.hid hs2; clear hs2 HL1 HR) | (refine (HL2.out _ HS2.out).mono ?_; rintro e w3 ⟨rfl, hs3⟩; have HS3 := Lib.hid hs3; clear hs3 HL2)))
            go_ret
            exact ⟨⟨_, rfl⟩, h, HS3.out, hhl, dn_stop HK.out (fun x h0 hx hp => le_tr nm HB.out (HMIN.out x h0 hx hp)), HE.out⟩
          | true =>
            go_wp2_with (first | (go_at_call_of 70 (Value.pointer (some ⟨p, 0, none⟩)); first | (refine (HL1.out _ HR.out).mono ?_; rintro e w2 ⟨rfl, hs2⟩; have HS2 := Lib.hid hs2; clear hs2 HL1 HR) | (refine (HL2.out _ HS2.out).mono ?_; rintro e w3 ⟨rfl, hs3⟩; have HS3 := Lib.hid hs3; clear hs3 HL2)) | (go_at_call 73; refine (HSW.out _ HS3.out).mono ?_; rintro e w4 ⟨⟨u, rfl⟩, hs4⟩; have HS4 := Lib.hid hs4; clear hs4))
            exact ⟨⟨c1, swapL h i c1, by omega, by rw [swapL_len]; exact hhl, rfl, HS4, Lib.hid (dn_step HK.out hnh hcn (by omega) (by have := HC1.out; have := HC2.out; omega) HB.out HMIN.out), HEX⟩, by simp [intOf]; have := HC1.out; have := HC2.out; omega⟩
      · have b3 : ¬ (c2 : Int) < (n : Int) := by omega
        obtain ⟨b, hb⟩ : ∃ b, ltN nm (h.getD c1 0) (h.getD i 0) = b := ⟨_, rfl⟩
        have HL2 := hLS c1 i b hcn (by omega) hb
        have HMIN := Lib.hid (show ∀ x, 0 < x → x < n → (x - 1) / 2 = i → ltN nm (h.getD x 0) (h.getD c1 0) = false from fun x h0 hx hp => by
          rcases dn_only hp h0 with e | e
          · have : x = c1 := by omega
            rw [this]; exact ltN_irr _ _
          · omega)
        have HB := Lib.hid hb
        have HSW := hSW c1 hcn (by omega)
        have HEX := hEX c1 hcn hnh
        clear hb hc1 hc2 hSW hLS hEX
        cases b with
        | false =>
          go_wp2_with (first | (go_at_call 70; refine (HL2.out _ HR.out).mono ?_; rintro e w3 ⟨rfl, hs3⟩; have HS3 := Lib.hid hs3; clear hs3))
          go_ret
          exact ⟨⟨_, rfl⟩, h, HS3.out, hhl, dn_stop HK.out (fun x h0 hx hp => le_tr nm HB.out (HMIN.out x h0 hx hp)), HE.out⟩
        | true =>
          go_wp2_with (first | (go_at_call 70; refine (HL2.out _ HR.out).mono ?_; rintro e w3 ⟨rfl, hs3⟩; have HS3 := Lib.hid hs3; clear hs3) | (go_at_call 73; refine (HSW.out _ HS3.out).mono ?_; rintro e w4 ⟨⟨u, rfl⟩, hs4⟩; have HS4 := Lib.hid hs4; clear hs4))
          exact ⟨⟨c1, swapL h i c1, by omega, by rw [swapL_len]; exact hhl, rfl, HS4, Lib.hid (dn_step HK.out hnh hcn (by omega) (by have := HC1.out; have := HC2.out; omega) HB.out HMIN.out), HEX⟩, by simp [intOf]; have := HC1.out; have := HC2.out; omega⟩
    · have b1 : (n : Int) ≤ (c1 : Int) := by omega
      clear hc1
      go_wp2_with fail
      go_ret
      exact ⟨⟨_, rfl⟩, h, HR.out, hhl, dn_stop HK.out (fun x h0 hx hp => by have := HC1.out; rcases dn_only hp h0 with e | e <;> omega), HE.out⟩
end Go.Proofs.Ytfhmfdmcdmcaiaa
