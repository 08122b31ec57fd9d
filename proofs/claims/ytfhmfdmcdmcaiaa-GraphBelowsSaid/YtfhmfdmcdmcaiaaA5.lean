/- The walks of container/heap's Push and Pop over this heap. -/
import Derived.Test.YtfhmfdmcdmcaiaaA4
namespace Go.Proofs.Ytfhmfdmcdmcaiaa
open Go Go.RowKit
set_option maxHeartbeats 2000000
set_option maxRecDepth 100000

theorem swap73e {base p : Nat} {vn : Value} {w : World} {g : Option Nat} {h : List Nat} (H : HeapIs base p vn w g h) (i : Nat) (hi : i < h.length) :
    Calls Try.prog 73 #[.pointer (some ⟨p, 0, none⟩), iv i, iv i] w fun e w' => (∃ u, e = .returned u) ∧ HeapPost base p vn w g (swapL h i i) w' := by
  obtain ⟨y, cap, rfl, h1, h2, h3, h4, h5, h6⟩ := H.cells (by omega)
  have f0 := cell_of h1 (i := 0) rfl
  have f2 := h4 i hi
  have z2 := h5 i
  have b1 : (i : Int) < (h.length : Int) := by omega
  obtain ⟨u, hu⟩ : ∃ u, h.getD i 0 = u := ⟨_, rfl⟩
  rw [hu] at f2
  have HH := Lib.hid H
  have HU := Lib.hid hu
  clear h4 h5 H hu
  go_enter Try.func73, Try.ntmps73
  go_upto_region 0 with fail
  go_region
  all_goals
    go_wp2_with fail
    go_end0
    refine ⟨⟨_, rfl⟩, ((Two.refl _ _ _).set y i _ (.inr rfl)).set y i _ (.inr rfl) |>.drew, _, ?_, .inl rfl⟩
    have e1 := HU.out
    have := ((HH.out.setRow i u).setRow i u).drew
    unfold swapL
    rw [e1]
    exact this
theorem HS.swap0 {base p : Nat} {vn : Value} {w0 w : World} {g0 : Option Nat} {h0 h : List Nat} {nm : List ByteArray} (H : HS base p vn w0 g0 h0 nm h w) (hv : ∀ b, vn.ownBlock = some b → b < base) (j : Nat) (hj : j < h.length) :
    Calls Try.prog 73 #[.pointer (some ⟨p, 0, none⟩), iv 0, iv j] w fun e w' => (∃ u, e = .returned u) ∧ HS base p vn w0 g0 h0 nm (swapL h 0 j) w' := by
  by_cases h0 : j = 0
  · subst h0
    obtain ⟨⟨t, g, hh, hg⟩, h2, h3, h4⟩ := H
    refine (swap73e hh 0 hj).mono ?_
    rintro e w' ⟨he, hp⟩
    exact ⟨he, HS.next ⟨⟨t, g, hh, hg⟩, h2, h3, h4⟩ hv g hh hg t hp (swapL_perm h 0 0 hj hj)⟩
  · exact H.swap hv 0 j (by omega) hj (fun e => h0 e.symm)
theorem HS.len {base p : Nat} {vn : Value} {w0 w : World} {g0 : Option Nat} {h0 h : List Nat} {nm : List ByteArray} (H : HS base p vn w0 g0 h0 nm h w) : Calls Try.prog 20 #[.pointer (some ⟨p, 0, none⟩)] w fun e w' => e = .returned (iv h.length) ∧ w' = w := by
  obtain ⟨⟨t, g, hh, hg⟩, h2, h3, h4⟩ := H
  exact len20 hh
theorem HS.start {base p : Nat} {vn : Value} {w : World} {g : Option Nat} {h : List Nat} {nm : List ByteArray} (H : HeapIs base p vn w g h) (hn : StrRow w vn nm) (hlt : ∀ x ∈ h, x < nm.length) : HS base p vn w g h nm h w :=
  ⟨⟨Two.refl _ _ _, g, H, .inl rfl⟩, List.Perm.refl _, hn, hlt⟩
theorem up_snoc {nm : List ByteArray} {h : List Nat} (hh : IsHeap nm h) (x : Nat) : UpOk nm (h ++ [x]) h.length := by
  have hg : ∀ i, i < h.length → (h ++ [x]).getD i 0 = h.getD i 0 := fun i hi => by
    simp only [List.getD_eq_getElem?_getD]
    rw [List.getElem?_append_left hi]
  refine ⟨fun i h0 hi hne => ?_, fun _ i h0 hi hp => ?_⟩
  · rw [List.length_append, List.length_singleton] at hi
    rw [hg i (by omega), hg _ (by omega)]
    exact hh i h0 (by omega)
  · rw [List.length_append, List.length_singleton] at hi
    omega
theorem push19 {base p : Nat} {vn : Value} {w : World} {g : Option Nat} {h : List Nat} {nm : List ByteArray} (H : HeapIs base p vn w g h) (hn : StrRow w vn nm) (hv : ∀ b, vn.ownBlock = some b → b < base) (hlt : ∀ x ∈ h, x < nm.length) (hh : IsHeap nm h) (hb : base ≤ w.heap.size) (hl : h.length ≤ 900) (x : Nat) (hx : x < nm.length) :
    Calls Try.prog 19 #[.iface 42 (.pointer (some ⟨p, 0, none⟩)), .iface 3 (iv x)] w fun e w' => (∃ u, e = .returned u) ∧ ∃ h', HeapPost base p vn w g h' w' ∧ h'.Perm (h ++ [x]) ∧ IsHeap nm h' := by
  have HP := Lib.hid (push72 H hb (by omega) x)
  have HSS := Lib.hid (fun (w2 : World) (h2 : HeapPost base p vn w g (h ++ [x]) w2) => (show HS base p vn w g (h ++ [x]) nm (h ++ [x]) w2 from ⟨h2, List.Perm.refl _, hn.two h2.1 hv H.pb (fun y hy => (H.gb y hy).1), fun y hy => by
    rw [List.mem_append, List.mem_singleton] at hy
    rcases hy with hy | hy
    · exact hlt y hy
    · rw [hy]; exact hx⟩))
  have HU := Lib.hid (up_snoc hh x)
  have HV := Lib.hid hv
  have mL := m_len
  have mS := m_push
  clear H hn hv hlt hh hx hb
  obtain ⟨m, hm⟩ : ∃ m, h.length = m := ⟨_, rfl⟩
  have HLN := Lib.hid (fun (W : World) (hW : HS base p vn w g (h ++ [x]) nm (h ++ [x]) W) => hW.len)
  have HUP := Lib.hid (fun (W : World) (hW : HS base p vn w g (h ++ [x]) nm (h ++ [x]) W) => up30 hW HV.out h.length (by simp) (by simp; omega) HU.out)
  rw [List.length_append, List.length_singleton, hm] at HLN
  rw [hm] at HUP
  have hml : m ≤ 900 := by omega
  clear HU hl
  go_enter Try.func19, Try.ntmps19
  go_wp2_with (first | (go_at_call 72; refine HP.out.mono ?_; rintro e w2 ⟨⟨u, rfl⟩, h2⟩; have HS2 := Lib.hid (HSS.out w2 h2); clear h2) | (go_at_call 20; refine (HLN.out _ HS2.out).mono ?_; rintro e w3 ⟨rfl, hw3⟩; obtain rfl := hw3.symm) | (go_at_call 30; refine (HUP.out _ HS2.out).mono ?_; rintro e w4 ⟨⟨u4, rfl⟩, h4⟩; have H4 := Lib.hid h4; clear h4))
  go_end0
  obtain ⟨h', h5, h6⟩ := H4.out
  exact ⟨⟨_, rfl⟩, h', h5.post, h5.perm, h6⟩
theorem dn_start {nm : List ByteArray} {h : List Nat} {n : Nat} (hh : IsHeap nm h) (hn : h.length = n + 1) : DnOk nm (swapL h 0 n) n 0 := by
  refine ⟨fun i h0 hi hp => ?_, fun h => by omega⟩
  rw [swapL_get h 0 n i (by omega) (by omega), swapL_get h 0 n _ (by omega) (by omega), if_neg (by omega), if_neg (by omega), if_neg (by omega), if_neg (by omega)]
  exact hh i h0 (by omega)
theorem take_last {l : List Nat} {n : Nat} (h : l.length = n + 1) : l = l.take n ++ [l.getD n 0] := by
  have e : l.getD n 0 = l[n] := by simp [List.getD_eq_getElem?_getD, List.getElem?_eq_getElem (show n < l.length by omega)]
  rw [e, ← List.take_succ_eq_append_getElem (by omega), List.take_of_length_le (by omega)]
theorem pop21 {base p : Nat} {vn : Value} {w : World} {g : Option Nat} {h : List Nat} {nm : List ByteArray} (H : HeapIs base p vn w g h) (hn : StrRow w vn nm) (hv : ∀ b, vn.ownBlock = some b → b < base) (hlt : ∀ x ∈ h, x < nm.length) (hh : IsHeap nm h) (hl : h.length ≤ 900) (h0 : 0 < h.length) :
    Calls Try.prog 21 #[.iface 42 (.pointer (some ⟨p, 0, none⟩))] w fun e w' => ∃ x h', e = .returned (.iface 3 (iv x)) ∧ HeapPost base p vn w g h' w' ∧ (x :: h').Perm h ∧ IsHeap nm h' ∧ ∀ y ∈ h, ltN nm y x = false := by
  obtain ⟨n, hn1⟩ : ∃ n, h.length = n + 1 := ⟨h.length - 1, by omega⟩
  have HS0 := Lib.hid (HS.start H hn hlt)
  have HV := Lib.hid hv
  have HHP := Lib.hid hh
  have HLN := Lib.hid HS0.out.len
  have HSW := Lib.hid (HS0.out.swap0 hv n (by omega))
  have hsl : (swapL h 0 n).length = n + 1 := by rw [swapL_len]; exact hn1
  have HDN := Lib.hid (fun (W : World) (hW : HS base p vn w g h nm (swapL h 0 n) W) => down31 hW HV.out 0 n (by rw [hsl]; omega) (by rw [hsl]; omega) (by omega) (dn_start hh hn1))
  have HPO := Lib.hid (fun (W : World) (h2 : List Nat) (hW : HS base p vn w g h nm h2 W) (h2l : h2.length = n + 1) => (show Calls Try.prog 71 #[.pointer (some ⟨p, 0, none⟩)] W fun e w' => e = .returned (.iface 3 (iv (h2.getD n 0))) ∧ HeapPost base p vn w g (h2.take n) w' from by
    obtain ⟨⟨t, g2, hi, hg⟩, a2, a3, a4⟩ := hW
    have hi' : HeapIs base p vn W g2 (h2.take n ++ [h2.getD n 0]) := by rw [← take_last h2l]; exact hi
    refine (pop71 hi').mono ?_
    rintro e w' ⟨rfl, t3, g3, i3, hg3⟩
    refine ⟨rfl, t.trans hg t3, g3, i3, ?_⟩
    rcases hg3 with e | ⟨x, e, hx⟩
    · rw [e]; exact hg
    · exact .inr ⟨x, e, Nat.le_trans t.size hx⟩))
  rw [hn1] at HLN
  have mL := m_len
  have mS := m_swap
  have mP := m_pop
  have hnl : n ≤ 900 := by omega
  have HN1 := Lib.hid hn1
  have HSL := Lib.hid hsl
  clear H hn hv hlt hh hn1 hsl h0 hl
  go_enter Try.func21, Try.ntmps21
  go_wp2_with (first | (go_at_call 20; refine HLN.out.mono ?_; rintro e w3 ⟨rfl, hw3⟩; obtain rfl := hw3.symm) | (go_at_call 73; refine HSW.out.mono ?_; rintro e w4 ⟨⟨u4, rfl⟩, h4⟩; have HS4 := Lib.hid h4; clear h4) | (go_at_call 31; refine (HDN.out _ HS4.out).mono ?_; rintro e w5 ⟨⟨u5, rfl⟩, h2, hs5, hl5, hh5, he5⟩; have HS5 := Lib.hid hs5; have HH5 := Lib.hid hh5; have HL5 := Lib.hid hl5; have HE5 := Lib.hid he5; clear hs5 hh5 hl5 he5) | (go_at_call 71; refine (HPO.out _ h2 HS5.out (HL5.out.trans HSL.out)).mono ?_; rintro e w6 ⟨rfl, h6⟩; have H6 := Lib.hid h6; clear h6))
  go_ret
  have hn1 := HN1.out
  have h2l := HL5.out.trans HSL.out
  have e0 : h2.getD n 0 = h.getD 0 0 := by
    rw [HE5.out n (Nat.le_refl _), swapL_get h 0 n n (by omega) (by omega), if_pos rfl]
  refine ⟨_, _, rfl, H6.out, ?_, ?_, ?_⟩
  · have : (h2.getD n 0 :: h2.take n).Perm (h2.take n ++ [h2.getD n 0]) := (List.perm_append_comm (l₁ := [h2.getD n 0]) (l₂ := h2.take n))
    rw [← take_last h2l] at this
    exact this.trans HS5.out.perm
  · intro i h0 hi
    rw [List.length_take] at hi
    have hg : ∀ i, i < n → (h2.take n).getD i 0 = h2.getD i 0 := fun i hi => by
      simp only [List.getD_eq_getElem?_getD]
      rw [List.getElem?_take_of_lt hi]
    rw [hg i (by omega), hg _ (by omega)]
    exact HH5.out i h0 (by omega)
  · intro y hy
    obtain ⟨i, hi, e⟩ := List.getElem_of_mem hy
    rw [← List.getD_eq_getElem?_getD]
    rw [e0]
    have := heap_least HHP.out i i (Nat.le_refl _) hi
    rw [show h.getD i 0 = y by rw [List.getD_eq_getElem?_getD, List.getElem?_eq_getElem hi, ← e]; rfl] at this
    exact this
end Go.Proofs.Ytfhmfdmcdmcaiaa
