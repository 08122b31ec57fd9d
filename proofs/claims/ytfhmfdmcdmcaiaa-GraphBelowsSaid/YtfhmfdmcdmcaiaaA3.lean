/- The walks of container/heap's up and down over this heap. -/
import Derived.Test.YtfhmfdmcdmcaiaaA2
namespace Go.Proofs.Ytfhmfdmcdmcaiaa
open Go Go.RowKit
set_option maxHeartbeats 2000000
set_option maxRecDepth 100000

theorem m_less (a : Addr) (w : World) : (method 209 42 (.pointer (some a)) "Less").run Try.prog w = .ok (70, .pointer (some a)) w := by kernel_rfl
theorem m_swap (a : Addr) (w : World) : (method 209 42 (.pointer (some a)) "Swap").run Try.prog w = .ok (73, .pointer (some a)) w := by kernel_rfl
theorem m_len (a : Addr) (w : World) : (method 209 42 (.pointer (some a)) "Len").run Try.prog w = .ok (20, .pointer (some a)) w := by kernel_rfl
theorem m_push (a : Addr) (w : World) : (method 209 42 (.pointer (some a)) "Push").run Try.prog w = .ok (72, .pointer (some a)) w := by kernel_rfl
theorem m_pop (a : Addr) (w : World) : (method 209 42 (.pointer (some a)) "Pop").run Try.prog w = .ok (71, .pointer (some a)) w := by kernel_rfl
/-- what holds throughout -/
structure HS (base p : Nat) (vn : Value) (w0 : World) (g0 : Option Nat) (h0 : List Nat) (nm : List ByteArray) (h : List Nat) (w : World) : Prop where
  post : HeapPost base p vn w0 g0 h w
  perm : h.Perm h0
  names : StrRow w vn nm
  lt : ∀ x ∈ h, x < nm.length
theorem StrRow.two {p B : Nat} {g : Option Nat} {w w' : World} {v : Value} {l : List ByteArray} (h : StrRow w v l) (hb : Two p g w w') (hv : ∀ b, v.ownBlock = some b → b < B) (hp : B ≤ p) (hg : ∀ x, g = some x → B ≤ x) : StrRow w' v l := by
  obtain ⟨a, c, rfl, h2, h3, h4⟩ := h
  refine ⟨a, c, rfl, h2, h3, ?_⟩
  rcases h4 with h4 | ⟨b, o, rfl, h7⟩
  · exact .inl h4
  · refine .inr ⟨b, o, rfl, fun i m hm => ?_⟩
    have h8 := h7 i m hm
    have hbB := hv b rfl
    exact (World.cell?_of_block (hb.block b (World.block_lt_of_cell? w _ h8) (by omega) (fun e => by have := hg b e.symm; omega))).trans h8
theorem HS.next {base p : Nat} {vn : Value} {w0 w w' : World} {g0 : Option Nat} {h0 h h' : List Nat} {nm : List ByteArray} (H : HS base p vn w0 g0 h0 nm h w) (hv : ∀ b, vn.ownBlock = some b → b < base) (g : Option Nat) (hi : HeapIs base p vn w g h) (hg : g = g0 ∨ ∃ x, g = some x ∧ w0.heap.size ≤ x) (ht : Two p g0 w0 w) (hp : HeapPost base p vn w g h' w') (hpm : h'.Perm h) : HS base p vn w0 g0 h0 nm h' w' := by
  obtain ⟨t2, g', i2, hg'⟩ := hp
  refine ⟨⟨ht.trans hg t2, g', i2, ?_⟩, hpm.trans H.perm, H.names.two t2 hv hi.pb (fun x hx => (hi.gb x hx).1), fun x hx => H.lt x (hpm.mem_iff.1 hx)⟩
  rcases hg' with e | ⟨x, e, hx⟩
  · rw [e]; exact hg
  · exact .inr ⟨x, e, Nat.le_trans ht.size hx⟩
theorem HS.any {base p : Nat} {vn : Value} {w0 w w' : World} {g0 : Option Nat} {h0 h : List Nat} {nm : List ByteArray} (H : HS base p vn w0 g0 h0 nm h w) (hb : Below w.heap.size w w') : HS base p vn w0 g0 h0 nm h w' := by
  obtain ⟨⟨t, g, hi, hg⟩, h2, h3, h4⟩ := H
  exact ⟨⟨t.trans hg (Two.of hb), g, hi.any hb, hg⟩, h2, h3.below hb, h4⟩
theorem HS.less {base p : Nat} {vn : Value} {w0 w : World} {g0 : Option Nat} {h0 h : List Nat} {nm : List ByteArray} (H : HS base p vn w0 g0 h0 nm h w) (i j : Nat) (hi : i < h.length) (hj : j < h.length) (b : Bool) (hb : ltN nm (h.getD i 0) (h.getD j 0) = b) :
    Calls Try.prog 70 #[.pointer (some ⟨p, 0, none⟩), iv i, iv j] w fun e w' => e = .returned (.bool b) ∧ HS base p vn w0 g0 h0 nm h w' := by
  obtain ⟨⟨t, g, hh, hg⟩, h2, h3, h4⟩ := H
  refine (less70 hh h3 h4 i j hi hj).mono ?_
  rintro e w' ⟨rfl, hb2⟩
  rw [hb]
  exact ⟨rfl, HS.any ⟨⟨t, g, hh, hg⟩, h2, h3, h4⟩ hb2⟩
theorem HS.swap {base p : Nat} {vn : Value} {w0 w : World} {g0 : Option Nat} {h0 h : List Nat} {nm : List ByteArray} (H : HS base p vn w0 g0 h0 nm h w) (hv : ∀ b, vn.ownBlock = some b → b < base) (i j : Nat) (hi : i < h.length) (hj : j < h.length) (hij : i ≠ j) :
    Calls Try.prog 73 #[.pointer (some ⟨p, 0, none⟩), iv i, iv j] w fun e w' => (∃ u, e = .returned u) ∧ HS base p vn w0 g0 h0 nm (swapL h i j) w' := by
  obtain ⟨⟨t, g, hh, hg⟩, h2, h3, h4⟩ := H
  refine (swap73 hh i j hi hj hij).mono ?_
  rintro e w' ⟨he, hp⟩
  exact ⟨he, HS.next ⟨⟨t, g, hh, hg⟩, h2, h3, h4⟩ hv g hh hg t hp (swapL_perm h i j hi hj)⟩
theorem up30 {base p : Nat} {vn : Value} {w0 w1 : World} {g0 : Option Nat} {h0 h1 : List Nat} {nm : List ByteArray} (H : HS base p vn w0 g0 h0 nm h1 w1) (hv : ∀ b, vn.ownBlock = some b → b < base) (j0 : Nat) (hj : j0 < h1.length) (hl : h1.length ≤ 1000) (hu : UpOk nm h1 j0) :
    Calls Try.prog 30 #[.iface 42 (.pointer (some ⟨p, 0, none⟩)), iv j0] w1 fun e w' => (∃ u, e = .returned u) ∧ ∃ h', HS base p vn w0 g0 h0 nm h' w' ∧ IsHeap nm h' := by
  have HH := Lib.hid H
  have HU := Lib.hid hu
  have HV := Lib.hid hv
  have mL := m_less
  have mS := m_swap
  clear H hu hv
  go_enter Try.func30, Try.ntmps30
  go_wp2_with fail
  go_loopw [1] (fun jv wr => ∃ (j : Nat) (h : List Nat), j < h.length ∧ h.length = h1.length ∧ jv = iv j ∧ Hid (HS base p vn w0 g0 h0 nm h wr) ∧ Hid (UpOk nm h j)) (fun jv _ => (intOf jv).toNat)
  case atStart => exact ⟨j0, h1, hj, rfl, rfl, HH, HU⟩
  case round =>
    obtain ⟨j, h, hjl, hhl, rfl, HR, HK⟩ := hrel
    by_cases hj0 : j = 0
    · subst hj0
      go_wp2_with fail
      go_end0
      exact ⟨⟨_, rfl⟩, h, HR.out, up_root HK.out⟩
    · obtain ⟨q, hq⟩ : ∃ q, (j - 1) / 2 = q := ⟨_, rfl⟩
      have hw1 : wrap64 (((j : Int) - 1).tdiv 2) = (q : Int) := by
        rw [Int.tdiv_eq_ediv_of_nonneg (by omega), IntWalk.wrap64_in _ (by omega)]; omega
      have hq2 : ((j : Int) - 1) / 2 = (q : Int) := by omega
      have hqj : ¬ (q : Int) = (j : Int) := by omega
      have hqj2 : ((q : Int) == (j : Int)) = false := by simp; omega
      have HQ := Lib.hid hq
      obtain ⟨b, hb⟩ : ∃ b, ltN nm (h.getD j 0) (h.getD q 0) = b := ⟨_, rfl⟩
      have HLS := Lib.hid (HR.out.less j q hjl (by omega) b hb)
      have HB := Lib.hid hb
      have hqj3 : q ≠ j := by omega
      clear hq hb
      cases b with
      | false =>
        go_wp2_with (first | (go_at_call 70; refine HLS.out.mono ?_; rintro e w2 ⟨rfl, hs2⟩; have HS2 := Lib.hid hs2; clear hs2))
        go_end0
        exact ⟨⟨_, rfl⟩, h, HS2.out, up_stop HK.out (by rw [HQ.out]; exact HB.out)⟩
      | true =>
        have HSW := Lib.hid (fun (W : World) (hW : HS base p vn w0 g0 h0 nm h W) => hW.swap HV.out q j (by omega) hjl hqj3)
        go_wp2_with (first | (go_at_call 70; refine HLS.out.mono ?_; rintro e w2 ⟨rfl, hs2⟩; have HS2 := Lib.hid hs2; clear hs2) | (go_at_call 73; refine (HSW.out _ HS2.out).mono ?_; rintro e w3 ⟨⟨u, rfl⟩, hs3⟩; have HS3 := Lib.hid hs3; clear hs3))
        have hst := up_step HK.out (by omega) hjl (by rw [HQ.out]; exact HB.out)
        rw [HQ.out] at hst
        exact ⟨⟨q, swapL h q j, by rw [swapL_len]; omega, by rw [swapL_len]; exact hhl, rfl, HS3, Lib.hid hst⟩, by simp [intOf]; omega⟩
end Go.Proofs.Ytfhmfdmcdmcaiaa
