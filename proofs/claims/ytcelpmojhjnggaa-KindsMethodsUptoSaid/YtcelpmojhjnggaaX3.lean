/- The document's Methods. -/
import Derived.Test.YtcelpmojhjnggaaX2
import Derived.Deep.Cut
import Derived.Deep.DeepCutAuto
import Derived.Deep.RegionHeld3
import Derived.BigRegion
namespace Go.Proofs.Ytcelpmojhjnggaa
open Go Go.RowKit Go.Sort Go.Deep KindsP
set_option maxHeartbeats 4000000
set_option maxRecDepth 100000

theorem insAll_mem (lt : Fld → Fld → Bool) : ∀ (l s : List Fld) (z : Fld), z ∈ insAll lt s l ↔ z ∈ s ∨ z ∈ l
  | [], s, z => by rw [insAll]; simp
  | x :: l, s, z => by
    rw [insAll, insAll_mem lt l, mem_mrg]
    simp only [List.mem_cons, List.not_mem_nil, or_false]
    constructor
    · rintro ((h | h) | h) <;> simp [h]
    · rintro (h | h | h) <;> simp [h]
theorem isort_mem {l : List Fld} {z : Fld} : z ∈ isort ltF l ↔ z ∈ l := by unfold isort; rw [insAll_mem]; simp
theorem FRow.rowG {w0 w : World} {d g c : Nat} {l : List Fld} (h : FRow w0 d w g l) (hc : l.length ≤ c) (hcm : c ≤ maxLen) : RowG 6 (LiesF w0 d) w (.slice (some ⟨g, 0, none⟩) l.length c) l := by
  obtain ⟨_, cs, h1, h2⟩ := h
  refine ⟨_, c, rfl, hc, hcm, .inr ⟨g, 0, rfl, fun k x hk => ?_⟩⟩
  obtain ⟨c0, c1, c2, c3, c4, c5, e0, e1, e2, e3, e4, e5, hl⟩ := h2 k x hk
  have key : ∀ (i : Nat) (u : Value), cs[i]? = some u → w.cell? ⟨g, i, none⟩ = some u := fun i u hu => by simp [World.cell?, h1, hu]
  refine ⟨_, hl, fun j u hu => ?_⟩
  rw [Nat.zero_add]
  match j, hu with
  | 0, hu => simp at hu; subst hu; exact key _ _ e0
  | 1, hu => simp at hu; subst hu; exact key _ _ e1
  | 2, hu => simp at hu; subst hu; exact key _ _ e2
  | 3, hu => simp at hu; subst hu; exact key _ _ e3
  | 4, hu => simp at hu; subst hu; exact key _ _ e4
  | 5, hu => simp at hu; subst hu; exact key _ _ e5
  | j + 6, hu => simp at hu
theorem Aside.belowOf {g B : Nat} {w w' : World} (h : Aside g g w w') (hg : B ≤ g) (hB : B ≤ w.heap.size) : Below B w w' := ⟨h.os, h.tape, h.output, h.size, fun k hk => h.block k (by omega) (by omega) (by omega)⟩
theorem ins76_nil (w : World) : Calls Try.prog 76 #[.slice none 0 0, .int .i64 0, .int .i64 0, fCmp] w fun e w' => (∃ u, e = .returned u) ∧ w' = w := by
  go_enter Try.func76, Try.ntmps76
  go_wp2_with fail
  go_loopw [8] (fun iv wr => iv = .int .i64 1 ∧ wr = w) (fun _ _ => 0)
  case atStart => exact ⟨rfl, rfl⟩
  case round =>
    obtain ⟨rfl, rfl⟩ := hrel
    go_wp2_with fail
    go_end0
    exact ⟨⟨_, rfl⟩, rfl⟩
theorem stable70_nil (w : World) : Calls Try.prog 70 #[.slice none 0 0, .int .i64 0, fCmp] w fun e w' => (∃ u, e = .returned u) ∧ w' = w := by
  go_enter Try.func70, Try.ntmps70
  go_wp2_with fail
  go_loopw [7, 8] (fun av bv wr => av = .int .i64 0 ∧ bv = .int .i64 20 ∧ Hid (wr = w)) (fun _ _ _ => 0)
  case atStart => exact ⟨rfl, rfl, Lib.hid rfl⟩
  case round =>
    obtain ⟨rfl, rfl, HW⟩ := hrel
    have HC := Lib.hid (ins76_nil wr)
    go_wp2_with (first | (go_at_call 76; refine HC.out.mono ?_; rintro e w5 ⟨⟨u, rfl⟩, hw5⟩; have HW5 := Lib.hid (hw5.trans HW.out); clear hw5))
    go_loopw [6] (fun sv wx => sv = .int .i64 20 ∧ Hid (wx = w)) (fun _ _ => 0)
    case atStart => exact ⟨rfl, HW5⟩
    case round =>
      obtain ⟨rfl, HX⟩ := hrel
      go_wp2_with fail
      go_end0
      exact ⟨⟨_, rfl⟩, HX.out⟩
theorem sort54_nil (w : World) : Calls Try.prog 54 #[.slice none 0 0, fCmp] w fun e w' => (∃ u, e = .returned u) ∧ w' = w := by
  have HC := Lib.hid (stable70_nil w)
  go_enter Try.func54, Try.ntmps54
  go_wp2_with (first | (go_at_call 70; refine HC.out.mono ?_; rintro e w5 ⟨⟨u, rfl⟩, hw5⟩; obtain rfl := hw5.symm))
  go_end0
  exact ⟨⟨_, rfl⟩, rfl⟩
/-- any row of one's own is put in order -/
theorem sortOwn_any (d : Nat) (w0 w : World) (B : Nat) (v : Value) (l : List Fld) (hB0 : w0.heap.size ≤ B) (hBw : B ≤ w.heap.size) (hn : l.length ≤ 1000000) (ho : OwnF w0 d w B v l) :
    Calls Try.prog 54 #[v, fCmp] w fun e w' => (∃ u, e = .returned u) ∧ RowG 6 (LiesF w0 d) w' v (isort ltF l) ∧ Below B w w' := by
  obtain ⟨cells, hoc, hcells⟩ := id ho
  obtain ⟨ao, cap, rfl⟩ := own_shape hoc
  cases ao with
  | none =>
    rcases hoc.2 with ⟨h1, h2⟩ | ⟨g, cp, cur, h1, _⟩
    · obtain rfl := List.length_eq_zero_iff.1 h2
      obtain rfl : cap = 0 := by simpa using h1
      refine (sort54_nil w).mono ?_
      rintro e w' ⟨h3, rfl⟩
      exact ⟨h3, RowG.nil _ _ _, Below.refl _ _⟩
    · cases h1
  | some ad =>
    obtain ⟨b, o, sp⟩ := ad
    have hz : o = 0 ∧ sp = none := by
      rcases hoc.2 with ⟨h1, _⟩ | ⟨g, cp, cur, h1, _⟩
      · cases h1
      · simp only [Value.slice.injEq, Option.some.injEq, Addr.mk.injEq] at h1
        exact ⟨h1.1.2.1, h1.1.2.2⟩
    obtain ⟨rfl, rfl⟩ := hz
    obtain ⟨_, hBg, hnc, hcm, hrow, _⟩ := ho.row hB0
    refine (sort54_any d w0 w b l.length cap l rfl hn hrow).mono ?_
    rintro e w' ⟨h3, h4, h5⟩
    refine ⟨h3, ?_, h5.belowOf hBg hBw⟩
    have := h4.rowG (c := cap) (by rw [isort_length]; exact hnc) hcm
    rwa [isort_length] at this
end Go.Proofs.Ytcelpmojhjnggaa
