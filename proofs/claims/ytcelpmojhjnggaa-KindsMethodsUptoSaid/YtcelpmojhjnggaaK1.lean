/- How many parts a type has: the reference's Count. -/
import Derived.Test.YtcelpmojhjnggaaK0
import Derived.Test.YtcelpmojhjnggaaProg
import Derived.WalkKit
import Derived.WalkSpells
import Derived.WalkLawsBesides
import Derived.Deep.QuietTactic
import Derived.BigQuiet
import Derived.Deep.RegionLaw
import Derived.OwnWalk
import Derived.WalkSmall
namespace Go.Proofs.Ytcelpmojhjnggaa
open Go Go.RowKit KindsP
set_option maxHeartbeats 1000000
set_option maxRecDepth 100000

mutual
/-- parts of a type, up to a number of them -/
def cnt : Ty → Int → Int
  | .mk _ _ _ la lr, m => cntL lr m (cntL la m 1)
def cntL : List Ty → Int → Int → Int
  | [], _, n => n
  | x :: xs, m, n => if n ≤ m then cntL xs m (n + cnt x (m - n)) else n
end
theorem cntL_over (l : List Ty) (m n : Int) (h : ¬ n ≤ m) : cntL l m n = n := by
  cases l with
  | nil => rw [cntL]
  | cons x xs => rw [cntL, if_neg h]
mutual
theorem cnt_le : ∀ (t : Ty) (m : Int), 0 ≤ m → 1 ≤ cnt t m ∧ cnt t m ≤ m + 1
  | .mk _ _ _ la lr, m, h => by
    rw [cnt]
    obtain ⟨h1, h2⟩ := cntL_le la m 1 (by omega) (by omega)
    exact cntL_le lr m _ h1 h2
theorem cntL_le : ∀ (l : List Ty) (m n : Int), 1 ≤ n → n ≤ m + 1 → 1 ≤ cntL l m n ∧ cntL l m n ≤ m + 1
  | [], m, n, h1, h2 => by rw [cntL]; exact ⟨h1, h2⟩
  | x :: xs, m, n, h1, h2 => by
    rw [cntL]
    split
    · next h =>
      obtain ⟨g1, g2⟩ := cnt_le x (m - n) (by omega)
      exact cntL_le xs m _ (by omega) (by omega)
    · exact ⟨h1, h2⟩
end
theorem cntL_at (l : List Ty) (k : Nat) (h : k < l.length) (m n : Int) (hn : n ≤ m) : cntL (l.drop k) m n = cntL (l.drop (k + 1)) m (n + cnt l[k] (m - n)) := by
  rw [List.drop_eq_getElem_cons h, cntL, if_pos hn]

theorem count_any (d : Nat) : ∀ (w : World) (v : Value) (t : Ty) (m : Int), Lies w d v t → 0 ≤ m → m ≤ 100000 →
    Calls Try.prog 37 #[v, .int .i64 m] w fun e w' => e = .returned (.int .i64 (cnt t m)) ∧ Below w.heap.size w w' := by
  induction d with
  | zero => intro w v t m h; exact h.elim
  | succ d ih =>
  intro w v t m h hm0 hm1
  obtain ⟨kd, p, nm, la, lr⟩ := t
  obtain ⟨va, vr, rfl, ha, hr⟩ := h
  obtain ⟨aa, ca, rfl, hca, hcm, haf⟩ := ha.form
  obtain ⟨ar, cr, rfl, hcr, hcmr, hrf⟩ := hr.form
  have HA := Lib.hid ha
  have HR := Lib.hid hr
  clear ha hr
  have hla := Nat.le_trans hca hcm
  have hlr := Nat.le_trans hcr hcmr
  unfold maxLen at hla hlr
  obtain ⟨W1, hQ⟩ : ∃ W1, W1 = w.alloc (.cells #[.int .i64 kd, .string p, .string nm, .slice aa la.length ca, .slice ar lr.length cr] 31) := ⟨_, rfl⟩
  have HQ := Lib.hid hQ
  have HB1 := Lib.hid (show W1.heap[w.heap.size]? = some (.cells #[.int .i64 kd, .string p, .string nm, .slice aa la.length ca, .slice ar lr.length cr] 31) by rw [hQ]; exact heap_alloc_new w _)
  have HW1 := Lib.hid (show Below w.heap.size w W1 by rw [hQ]; exact (Below.refl _ _).alloc (Nat.le_refl _) _)
  have HS1 := Lib.hid (show w.heap.size + 1 ≤ W1.heap.size by rw [hQ]; simp)
  clear hQ
  go_enter Try.func37, Try.ntmps37
  go_wp2_with fail
  go_loopw [5, 6] (fun nv iv wr => ∃ (k : Nat) (n : Int), k ≤ la.length ∧ iv = .int .i64 k ∧ nv = .int .i64 n ∧ 1 ≤ n ∧ n ≤ m + 1 ∧ Below (w.heap.size + 1) W1 wr ∧ Hid (cntL la m 1 = cntL (la.drop k) m n)) (fun _ iv _ => la.length - (intOf iv).toNat)
  case atStart => exact ⟨0, 1, by omega, rfl, rfl, by omega, by omega, by rw [HQ.out]; exact Below.refl _ _, rfl⟩
  case round =>
    obtain ⟨k, n, hk, rfl, rfl, hn1, hn2, hb, H⟩ := hrel
    have hbox : wr.heap[w.heap.size]? = _ := (hb.block w.heap.size (by omega)).trans HB1.out
    have c3 : wr.cell? ⟨w.heap.size, 3, none⟩ = some (.slice aa la.length ca) := by simp [World.cell?, hbox]
    have HB := Lib.hid hb
    have HW := Lib.hid (HW1.out.trans (hb.mono (by omega)))
    clear hb hbox
    by_cases hlt : k < la.length
    · obtain ⟨b, o, rfl⟩ := haf (by omega)
      obtain ⟨x0, x1, x2, x3, x4, hl, hf⟩ := HA.out.get k la[k] (by simp)
      have hl' := Lib.hid (Lies.below HW.out _ _ _ hl)
      obtain ⟨f0, f1, f2, f3, f4⟩ := hf.below HW.out
      clear hl hf
      by_cases hnm : n ≤ m
      · have HC := Lib.hid (cnt_le la[k] (m - n) (by omega))
        have HS := Lib.hid (cntL_at la k hlt m n hnm)
        go_wp2_with (first | (go_at_call 37; refine (ih _ _ la[k] _ hl'.out (by omega) (by omega)).mono ?_; rintro e w2 ⟨rfl, hb2⟩; have HB2 := Lib.hid hb2; clear hb2; obtain ⟨q0, q1⟩ := HC.out))
        exact ⟨⟨k + 1, n + cnt la[k] (m - n), by omega, by go_num, by go_num, by omega, by omega, HB.out.trans (HB2.out.mono (Nat.le_trans HS1.out HB.out.size)), by show _ = _; rw [H.out, HS.out]⟩, by simp [intOf]; omega⟩
      · have HE := Lib.hid (show cntL la m 1 = n by rw [H.out]; exact cntL_over _ _ _ hnm)
        clear H hl' f0 f1 f2 f3 f4
        go_wp2_with fail
        have HE0 := HE
        have HB0 := HB
        have hn1' := hn1
        have hn2' := hn2
        clear HE HB HW c3 hn1 hn2
        generalize n = n0 at *
        go_loopw [5, 7] (fun nv iv wr => ∃ (k : Nat) (n : Int), k ≤ lr.length ∧ iv = .int .i64 k ∧ nv = .int .i64 n ∧ 1 ≤ n ∧ n ≤ m + 1 ∧ Below (w.heap.size + 1) W1 wr ∧ Hid (cntL lr m n0 = cntL (lr.drop k) m n)) (fun _ iv _ => lr.length - (intOf iv).toNat)
        case atStart => exact ⟨0, n0, by omega, rfl, rfl, hn1', hn2', HB0.out, rfl⟩
        case round =>
          obtain ⟨k, n, hk, rfl, rfl, hn1, hn2, hb, H⟩ := hrel
          have hbox : wr.heap[w.heap.size]? = _ := (hb.block w.heap.size (by omega)).trans HB1.out
          have c4 : wr.cell? ⟨w.heap.size, 4, none⟩ = some (.slice ar lr.length cr) := by simp [World.cell?, hbox]
          have HB := Lib.hid hb
          have HW := Lib.hid (HW1.out.trans (hb.mono (by omega)))
          clear hb hbox
          by_cases hlt : k < lr.length
          · obtain ⟨b, o, rfl⟩ := hrf (by omega)
            obtain ⟨x0, x1, x2, x3, x4, hl, hf⟩ := HR.out.get k lr[k] (by simp)
            have hl' := Lib.hid (Lies.below HW.out _ _ _ hl)
            obtain ⟨f0, f1, f2, f3, f4⟩ := hf.below HW.out
            clear hl hf
            by_cases hnm : n ≤ m
            · have HC := Lib.hid (cnt_le lr[k] (m - n) (by omega))
              have HS := Lib.hid (cntL_at lr k hlt m n hnm)
              go_wp2_with (first | (go_at_call 37; refine (ih _ _ lr[k] _ hl'.out (by omega) (by omega)).mono ?_; rintro e w2 ⟨rfl, hb2⟩; have HB2 := Lib.hid hb2; clear hb2; obtain ⟨q0, q1⟩ := HC.out))
              exact ⟨⟨k + 1, n + cnt lr[k] (m - n), by omega, by go_num, by go_num, by omega, by omega, HB.out.trans (HB2.out.mono (Nat.le_trans HS1.out HB.out.size)), by show _ = _; rw [H.out, HS.out]⟩, by simp [intOf]; omega⟩
            · have HE := Lib.hid (show cntL lr m n0 = n by rw [H.out]; exact cntL_over _ _ _ hnm)
              clear H hl' f0 f1 f2 f3 f4
              go_wp2_with fail
              go_ret
              refine ⟨?_, HW.out⟩
              rw [cnt, HE0.out, HE.out]; rfl
          · have HE := Lib.hid (show cntL lr m n0 = n by rw [H.out, List.drop_eq_nil_of_le (by omega), cntL])
            clear H
            go_wp2_with fail
            go_ret
            refine ⟨?_, HW.out⟩
            rw [cnt, HE0.out, HE.out]; rfl
    · have HE := Lib.hid (show cntL la m 1 = n by rw [H.out, List.drop_eq_nil_of_le (by omega), cntL])
      clear H
      go_wp2_with fail
      have HE0 := HE
      have HB0 := HB
      have hn1' := hn1
      have hn2' := hn2
      clear HE HB HW c3 hn1 hn2
      generalize n = n0 at *
      go_loopw [5, 7] (fun nv iv wr => ∃ (k : Nat) (n : Int), k ≤ lr.length ∧ iv = .int .i64 k ∧ nv = .int .i64 n ∧ 1 ≤ n ∧ n ≤ m + 1 ∧ Below (w.heap.size + 1) W1 wr ∧ Hid (cntL lr m n0 = cntL (lr.drop k) m n)) (fun _ iv _ => lr.length - (intOf iv).toNat)
      case atStart => exact ⟨0, n0, by omega, rfl, rfl, hn1', hn2', HB0.out, rfl⟩
      case round =>
        obtain ⟨k, n, hk, rfl, rfl, hn1, hn2, hb, H⟩ := hrel
        have hbox : wr.heap[w.heap.size]? = _ := (hb.block w.heap.size (by omega)).trans HB1.out
        have c4 : wr.cell? ⟨w.heap.size, 4, none⟩ = some (.slice ar lr.length cr) := by simp [World.cell?, hbox]
        have HB := Lib.hid hb
        have HW := Lib.hid (HW1.out.trans (hb.mono (by omega)))
        clear hb hbox
        by_cases hlt : k < lr.length
        · obtain ⟨b, o, rfl⟩ := hrf (by omega)
          obtain ⟨x0, x1, x2, x3, x4, hl, hf⟩ := HR.out.get k lr[k] (by simp)
          have hl' := Lib.hid (Lies.below HW.out _ _ _ hl)
          obtain ⟨f0, f1, f2, f3, f4⟩ := hf.below HW.out
          clear hl hf
          by_cases hnm : n ≤ m
          · have HC := Lib.hid (cnt_le lr[k] (m - n) (by omega))
            have HS := Lib.hid (cntL_at lr k hlt m n hnm)
            go_wp2_with (first | (go_at_call 37; refine (ih _ _ lr[k] _ hl'.out (by omega) (by omega)).mono ?_; rintro e w2 ⟨rfl, hb2⟩; have HB2 := Lib.hid hb2; clear hb2; obtain ⟨q0, q1⟩ := HC.out))
            exact ⟨⟨k + 1, n + cnt lr[k] (m - n), by omega, by go_num, by go_num, by omega, by omega, HB.out.trans (HB2.out.mono (Nat.le_trans HS1.out HB.out.size)), by show _ = _; rw [H.out, HS.out]⟩, by simp [intOf]; omega⟩
          · have HE := Lib.hid (show cntL lr m n0 = n by rw [H.out]; exact cntL_over _ _ _ hnm)
            clear H hl' f0 f1 f2 f3 f4
            go_wp2_with fail
            go_ret
            refine ⟨?_, HW.out⟩
            rw [cnt, HE0.out, HE.out]; rfl
        · have HE := Lib.hid (show cntL lr m n0 = n by rw [H.out, List.drop_eq_nil_of_le (by omega), cntL])
          clear H
          go_wp2_with fail
          go_ret
          refine ⟨?_, HW.out⟩
          rw [cnt, HE0.out, HE.out]; rfl
end Go.Proofs.Ytcelpmojhjnggaa
