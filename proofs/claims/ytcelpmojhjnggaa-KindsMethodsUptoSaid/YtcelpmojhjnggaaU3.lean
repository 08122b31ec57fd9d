/- Parts of units are counted: some number is answered, nothing old is turned. -/
import Derived.Test.YtcelpmojhjnggaaU2
import Derived.Deep.Cut
import Derived.Deep.DeepCutAuto
import Derived.Deep.RegionHeld3
namespace Go.Proofs.Ytcelpmojhjnggaa
open Go Go.RowKit Go.Sort Go.Deep KindsP
set_option maxHeartbeats 4000000
set_option maxRecDepth 100000

theorem cell_on {w wx : World} {a : Addr} {v : Value} (hb : Below w.heap.size w wx) (h : w.cell? a = some v) : wx.cell? a = some v := (hb.cell (World.block_lt_of_cell? _ _ h)).trans h
theorem below_drew {w w' : World} (h : Below w.drew.heap.size w.drew w') : Below w.heap.size w w' := ⟨h.os, h.tape, h.output, h.size, h.block⟩
theorem rowG_zero {α : Type} {n : Nat} {R : List Value → α → Prop} {w : World} {v : Value} {l : List α} (h : RowG n R w v l) (hR : ∀ cs x, ¬ R cs x) : l = [] := by
  cases l with
  | nil => rfl
  | cons x xs =>
    obtain ⟨a, c, rfl, _, _, hf⟩ := h.form
    obtain ⟨b, o, rfl⟩ := hf (by simp)
    obtain ⟨cs, h0, _⟩ := h.get 0 x rfl
    exact (hR _ _ h0).elim
theorem stats_some (d : Nat) : ∀ (w : World) (v : Value) (l : List Unit) (m : Int), RowG 5 (LiesS w d) w v l → Calls Try.prog 69 #[v, .int .i64 m] w (SomeInt w) := by
  induction d with
  | zero =>
    intro w v l m h
    obtain ⟨a, c, rfl, hcc, hcm, hf⟩ := h.form
    obtain rfl := rowG_zero h (fun _ _ h => h)
    clear h hf
    go_enter Try.func69, Try.ntmps69
    go_wp2_with fail
    go_loopw [5, 6] (fun nv iv wr => iv = .int .i64 0 ∧ nv = .int .i64 0 ∧ wr = w) (fun _ iv _ => 0)
    case atStart => exact ⟨rfl, rfl, rfl⟩
    case round =>
      obtain ⟨rfl, rfl, rfl⟩ := hrel
      go_wp2_with fail
      go_ret
      exact ⟨⟨_, rfl⟩, Below.refl _ _⟩
  | succ d ih =>
  intro w v l m h
  obtain ⟨a, c, rfl, hcc, hcm, hf⟩ := h.form
  have hll := Nat.le_trans hcc hcm
  unfold maxLen at hll
  have HA := Lib.hid h
  clear h
  go_enter Try.func69, Try.ntmps69
  go_wp2_with fail
  go_loopw [5, 6] (fun nv iv wr => ∃ (k : Nat) (n : Int), k ≤ l.length ∧ iv = .int .i64 k ∧ nv = .int .i64 n ∧ Below w.heap.size w wr) (fun _ iv _ => l.length - (intOf iv).toNat)
  case atStart => exact ⟨0, _, by omega, rfl, rfl, Below.refl _ _⟩
  case round =>
    obtain ⟨k, n, hk, rfl, rfl, hb⟩ := hrel
    have HB := Lib.hid hb
    clear hb
    by_cases hc : k < l.length ∧ n ≤ m
    · obtain ⟨hlt, hnm⟩ := hc
      obtain ⟨b, o, rfl⟩ := hf (by omega)
      obtain ⟨cs, ⟨e0, e1, ve, vb, vl, le, lb, ll, rfl, hre, hrb, hrl⟩, hcs⟩ := HA.out.get k l[k] (by simp)
      obtain ⟨ae, ce, rfl, _⟩ := hre.form
      obtain ⟨ab, cb, rfl, _⟩ := hrb.form
      obtain ⟨al, cl, rfl, _⟩ := hrl.form
      have hc2 := cell_on HB.out (hcs 2 _ rfl)
      have hc3 := cell_on HB.out (hcs 3 _ rfl)
      have hc4 := cell_on HB.out (hcs 4 _ rfl)
      have HRE := Lib.hid (fun W (hb : Below w.heap.size w W) mm => exprs_some d W _ le mm (hre.mono (LiesE.below hb d) hb))
      have HRB := Lib.hid (fun W (hb : Below w.heap.size w W) mm => ih W _ lb mm (hrb.mono (LiesS.below hb d) hb))
      have HRL := Lib.hid (fun W (hb : Below w.heap.size w W) mm => ih W _ ll mm (hrl.mono (LiesS.below hb d) hb))
      clear hre hrb hrl hcs
      go_wp2_with (first | (go_at_call 75; refine (HRE.out _ HB.out _).mono ?_; rintro e w2 ⟨⟨c1, rfl⟩, hb2⟩; have HB2 := Lib.hid (HB.out.trans (hb2.mono HB.out.size)); have hc3 := cell_on hb2 hc3; have hc4 := cell_on hb2 hc4; clear hb2) | (go_at_call_of 69 (Value.slice ab lb.length cb); refine (HRB.out _ HB2.out _).mono ?_; rintro e w3 ⟨⟨c2, rfl⟩, hb2⟩; have HB3 := Lib.hid (HB2.out.trans (hb2.mono HB2.out.size)); have hc4 := cell_on hb2 hc4; clear hb2) | (go_at_call_of 69 (Value.slice al ll.length cl); refine (HRL.out _ HB3.out _).mono ?_; rintro e w4 ⟨⟨c3, rfl⟩, hb2⟩; have HB4 := Lib.hid (HB3.out.trans (hb2.mono HB3.out.size)); clear hb2))
      all_goals
        refine ⟨⟨k + 1, _, by omega, by go_num, rfl, ?_⟩, by simp [intOf]; omega⟩
        first | exact HB4.out | exact HB3.out | exact HB2.out
    · obtain hc | ⟨hc, hd⟩ : ¬ k < l.length ∨ (k < l.length ∧ ¬ n ≤ m) := by omega
      all_goals
        go_wp2_with fail
        go_ret
        exact ⟨⟨_, rfl⟩, HB.out⟩
end Go.Proofs.Ytcelpmojhjnggaa
