/- Parts are counted: some number is answered, nothing old is turned. -/
import Derived.Test.YtcelpmojhjnggaaU0
import Derived.Lib.QuietBelow
namespace Go.Proofs.Ytcelpmojhjnggaa
open Go Go.RowKit Go.Sort KindsP
set_option maxHeartbeats 2000000
set_option maxRecDepth 100000

def SomeInt (w : World) (e : Ending) (w' : World) : Prop := (∃ n, e = .returned (.int .i64 n)) ∧ Below w.heap.size w w'
theorem count_some (d : Nat) : ∀ (w : World) (v : Value) (t : Ty) (m : Int), Lies w d v t → Calls Try.prog 37 #[v, .int .i64 m] w (SomeInt w) := by
  induction d with
  | zero => intro w v t m h; exact h.elim
  | succ d ih =>
  intro w v t m h
  obtain ⟨kd, p, nm, la, lr⟩ := t
  obtain ⟨va, vr, rfl, ha, hr⟩ := h
  obtain ⟨aa, ca, rfl, hca, hcm, haf⟩ := ha.form
  obtain ⟨ar, cr, rfl, hcr, hcmr, hrf⟩ := hr.form
  have HA := Lib.hid ha
  have HR := Lib.hid hr
  clear ha hr
  have hla := Nat.le_trans hca hcm
  have hlr := Nat.le_trans hcr hcmr
  unfold maxLen at hla hlr
  obtain ⟨W1, hQ⟩ : ∃ W1, W1 = w.alloc (.cells #[.int .i64 kd, .string p, .string nm, .slice aa la.length ca, .slice ar lr.length cr] 31) := ⟨_, rfl⟩
  have HB1 := Lib.hid (show W1.heap[w.heap.size]? = some (.cells #[.int .i64 kd, .string p, .string nm, .slice aa la.length ca, .slice ar lr.length cr] 31) by rw [hQ]; exact heap_alloc_new w _)
  have HW1 := Lib.hid (show Below w.heap.size w W1 by rw [hQ]; exact (Below.refl _ _).alloc (Nat.le_refl _) _)
  have HS1 := Lib.hid (show w.heap.size + 1 ≤ W1.heap.size by rw [hQ]; simp)
  have HBS : Hid (Below (w.heap.size + 1) W1 (w.alloc (.cells #[.int .i64 kd, .string p, .string nm, .slice aa la.length ca, .slice ar lr.length cr] 31))) := Lib.hid (by rw [hQ]; exact Below.refl _ _)
  clear hQ
  go_enter Try.func37, Try.ntmps37
  go_wp2_with fail
  go_loopw [5, 6] (fun nv iv wr => ∃ (k : Nat) (n : Int), k ≤ la.length ∧ iv = .int .i64 k ∧ nv = .int .i64 n ∧ Below (w.heap.size + 1) W1 wr) (fun _ iv _ => la.length - (intOf iv).toNat)
  case atStart => exact ⟨0, _, by omega, rfl, rfl, HBS.out⟩
  case round =>
    obtain ⟨k, n, hk, rfl, rfl, hb⟩ := hrel
    have hbox : wr.heap[w.heap.size]? = _ := (hb.block w.heap.size (by omega)).trans HB1.out
    have c3 : wr.cell? ⟨w.heap.size, 3, none⟩ = some (.slice aa la.length ca) := by simp [World.cell?, hbox]
    have HB := Lib.hid hb
    have HW := Lib.hid (HW1.out.trans (hb.mono (by omega)))
    clear hb hbox
    by_cases hc : k < la.length ∧ n ≤ m
    · obtain ⟨hlt, hnm⟩ := hc
      obtain ⟨b, o, rfl⟩ := haf (by omega)
      obtain ⟨x0, x1, x2, x3, x4, hl, hf⟩ := HA.out.get k la[k] (by simp)
      have hl' := Lib.hid (Lies.below HW.out _ _ _ hl)
      obtain ⟨f0, f1, f2, f3, f4⟩ := hf.below HW.out
      clear hl hf
      go_wp2_with (first | (go_at_call 37; refine (ih _ _ la[k] _ hl'.out).mono ?_; rintro e w2 ⟨⟨c, rfl⟩, hb2⟩; have HB2 := Lib.hid hb2; clear hb2))
      exact ⟨⟨k + 1, _, by omega, by go_num, rfl, HB.out.trans (HB2.out.mono (Nat.le_trans HS1.out HB.out.size))⟩, by simp [intOf]; omega⟩
    · obtain hc | ⟨hc, hd⟩ : ¬ k < la.length ∨ (k < la.length ∧ ¬ n ≤ m) := by omega
      all_goals
        go_wp2_with fail
        have HBS := HB
        clear HB HW c3 hc
        go_loopw [5, 7] (fun nv iv wr => ∃ (k : Nat) (n : Int), k ≤ lr.length ∧ iv = .int .i64 k ∧ nv = .int .i64 n ∧ Below (w.heap.size + 1) W1 wr) (fun _ iv _ => lr.length - (intOf iv).toNat)
        case atStart => exact ⟨0, _, by omega, rfl, rfl, HBS.out⟩
        case round =>
          obtain ⟨k, n, hk, rfl, rfl, hb⟩ := hrel
          have hbox : wr.heap[w.heap.size]? = _ := (hb.block w.heap.size (by omega)).trans HB1.out
          have c4 : wr.cell? ⟨w.heap.size, 4, none⟩ = some (.slice ar lr.length cr) := by simp [World.cell?, hbox]
          have HB := Lib.hid hb
          have HW := Lib.hid (HW1.out.trans (hb.mono (by omega)))
          clear hb hbox
          by_cases hc : k < lr.length ∧ n ≤ m
          · obtain ⟨hlt, hnm⟩ := hc
            obtain ⟨b, o, rfl⟩ := hrf (by omega)
            obtain ⟨x0, x1, x2, x3, x4, hl, hf⟩ := HR.out.get k lr[k] (by simp)
            have hl' := Lib.hid (Lies.below HW.out _ _ _ hl)
            obtain ⟨f0, f1, f2, f3, f4⟩ := hf.below HW.out
            clear hl hf
            go_wp2_with (first | (go_at_call 37; refine (ih _ _ lr[k] _ hl'.out).mono ?_; rintro e w2 ⟨⟨c, rfl⟩, hb2⟩; have HB2 := Lib.hid hb2; clear hb2))
            exact ⟨⟨k + 1, _, by omega, by go_num, rfl, HB.out.trans (HB2.out.mono (Nat.le_trans HS1.out HB.out.size))⟩, by simp [intOf]; omega⟩
          · obtain hc | ⟨hc, hd⟩ : ¬ k < lr.length ∨ (k < lr.length ∧ ¬ n ≤ m) := by omega
            all_goals
              go_wp2_with fail
              go_ret
              exact ⟨⟨_, rfl⟩, HW.out⟩
theorem exprs_some (d : Nat) : ∀ (w : World) (v : Value) (l : List Unit) (m : Int), RowG 4 (LiesE w d) w v l → Calls Try.prog 75 #[v, .int .i64 m] w (SomeInt w) := by
  induction d with
  | zero =>
    intro w v l m h
    obtain ⟨a, c, rfl, hcc, hcm, hf⟩ := h.form
    have h0 : l = [] := by
      cases l with
      | nil => rfl
      | cons x xs =>
        obtain ⟨b, o, rfl⟩ := hf (by simp)
        obtain ⟨cs, h0, _⟩ := h.get 0 x rfl
        exact h0.elim
    subst h0
    clear h hf
    go_enter Try.func75, Try.ntmps75
    go_wp2_with fail
    go_loopw [5, 6] (fun nv iv wr => iv = .int .i64 0 ∧ nv = .int .i64 0 ∧ wr = w) (fun _ iv _ => 0)
    case atStart => exact ⟨rfl, rfl, rfl⟩
    case round =>
      obtain ⟨rfl, rfl, rfl⟩ := hrel
      go_wp2_with fail
      go_ret
      exact ⟨⟨_, rfl⟩, Below.refl _ _⟩
  | succ d ih =>
  intro w v l m h
  obtain ⟨a, c, rfl, hcc, hcm, hf⟩ := h.form
  have hll := Nat.le_trans hcc hcm
  unfold maxLen at hll
  have HA := Lib.hid h
  clear h
  go_enter Try.func75, Try.ntmps75
  go_wp2_with fail
  go_loopw [5, 6] (fun nv iv wr => ∃ (k : Nat) (n : Int), k ≤ l.length ∧ iv = .int .i64 k ∧ nv = .int .i64 n ∧ Below w.heap.size w wr) (fun _ iv _ => l.length - (intOf iv).toNat)
  case atStart => exact ⟨0, _, by omega, rfl, rfl, Below.refl _ _⟩
  case round =>
    obtain ⟨k, n, hk, rfl, rfl, hb⟩ := hrel
    have HB := Lib.hid hb
    clear hb
    by_cases hc : k < l.length ∧ n ≤ m
    · obtain ⟨hlt, hnm⟩ := hc
      obtain ⟨b, o, rfl⟩ := hf (by omega)
      obtain ⟨cs, ⟨e0, e1, e2, e3, le, rfl, hr⟩, hcs⟩ := HA.out.get k l[k] (by simp)
      have hc3 := (HB.out.cell (World.block_lt_of_cell? w _ (hcs 3 e3 rfl))).trans (hcs 3 e3 rfl)
      obtain ⟨ax, cx, rfl, hccx, hcmx, hfx⟩ := hr.form
      have HR := Lib.hid (hr.mono (LiesE.below HB.out d) HB.out)
      clear hr hcs
      have hxx := Nat.le_trans hccx hcmx
      unfold maxLen at hxx
      by_cases hn2 : wrap64 (n + 1) ≤ m
      · go_wp2_with (first | (go_at_call 75; refine (ih _ _ le _ HR.out).mono ?_; rintro e w2 ⟨⟨c, rfl⟩, hb2⟩; have HB2 := Lib.hid hb2; clear hb2))
        exact ⟨⟨k + 1, _, by omega, by go_num, rfl, HB.out.trans (HB2.out.mono HB.out.size)⟩, by simp [intOf]; omega⟩
      · go_wp2_with fail
        exact ⟨⟨k + 1, _, by omega, by go_num, rfl, HB.out⟩, by simp [intOf]; omega⟩
    · obtain hc | ⟨hc, hd⟩ : ¬ k < l.length ∨ (k < l.length ∧ ¬ n ≤ m) := by omega
      all_goals
        go_wp2_with fail
        go_ret
        exact ⟨⟨_, rfl⟩, HB.out⟩
end Go.Proofs.Ytcelpmojhjnggaa
