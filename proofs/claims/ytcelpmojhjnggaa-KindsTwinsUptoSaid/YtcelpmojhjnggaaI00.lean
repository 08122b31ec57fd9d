/- Types in memory, in plain words. -/
import Derived.ProofKit
import Derived.Below
import Derived.Deep.Slices
import Derived.Lib.Hide
import Derived.Test.YtcelpmojhjnggaaProg
import Derived.WalkKit
import Derived.WalkSpells
import Derived.WalkLawsBesides
import Derived.Deep.QuietTactic
import Derived.BigQuiet
import Derived.Deep.RegionLaw
import Derived.OwnWalk
import Derived.WalkSmall
namespace KindsP
open Go Go.RowKit

/-- a type, as it is written -/
inductive Ty where
  | mk : Int → ByteArray → ByteArray → List Ty → List Ty → Ty

/-- the five cells of a type behind an address -/
structure Five (w : World) (b o : Nat) (c0 c1 c2 c3 c4 : Value) : Prop where
  c0 : w.cell? ⟨b, o, none⟩ = some c0
  c1 : w.cell? ⟨b, o + 1, none⟩ = some c1
  c2 : w.cell? ⟨b, o + 2, none⟩ = some c2
  c3 : w.cell? ⟨b, o + 3, none⟩ = some c3
  c4 : w.cell? ⟨b, o + 4, none⟩ = some c4
/-- a slice that holds types: each element's five cells, and what R says of them -/
def RowOf (R : Value → Ty → Prop) (w : World) (v : Value) (l : List Ty) : Prop :=
  ∃ a c, v = .slice a l.length c ∧ l.length ≤ c ∧ c ≤ maxLen ∧ (l = [] ∨ ∃ b o, a = some ⟨b, o, none⟩ ∧ ∀ i x, l[i]? = some x → ∃ c0 c1 c2 c3 c4, R (.agg #[c0, c1, c2, c3, c4]) x ∧ Five w b (o + i * 5) c0 c1 c2 c3 c4)
/-- a type lies in memory, no deeper than d -/
def Lies (w : World) : Nat → Value → Ty → Prop
  | 0, _, _ => False
  | d + 1, v, .mk k p n la lr => ∃ va vr, v = .agg #[.int .i64 k, .string p, .string n, va, vr] ∧ RowOf (Lies w d) w va la ∧ RowOf (Lies w d) w vr lr

theorem Five.below {w w' : World} {b o : Nat} {c0 c1 c2 c3 c4 : Value} (h : Five w b o c0 c1 c2 c3 c4) (hb : Below w.heap.size w w') : Five w' b o c0 c1 c2 c3 c4 := by
  have hlt : b < w.heap.size := World.block_lt_of_cell? w _ h.c0
  exact ⟨(hb.cell (p := ⟨b, o, none⟩) hlt).trans h.c0, (hb.cell (p := ⟨b, o + 1, none⟩) hlt).trans h.c1, (hb.cell (p := ⟨b, o + 2, none⟩) hlt).trans h.c2, (hb.cell (p := ⟨b, o + 3, none⟩) hlt).trans h.c3, (hb.cell (p := ⟨b, o + 4, none⟩) hlt).trans h.c4⟩
theorem RowOf.mono {R R' : Value → Ty → Prop} {w w' : World} {v : Value} {l : List Ty} (h : RowOf R w v l) (hR : ∀ v t, R v t → R' v t) (hb : Below w.heap.size w w') : RowOf R' w' v l := by
  obtain ⟨a, c, h1, h2, h3, h4⟩ := h
  refine ⟨a, c, h1, h2, h3, ?_⟩
  rcases h4 with h4 | ⟨b, o, h5, h6⟩
  · exact .inl h4
  · refine .inr ⟨b, o, h5, fun i x hx => ?_⟩
    obtain ⟨c0, c1, c2, c3, c4, hr, hf⟩ := h6 i x hx
    exact ⟨c0, c1, c2, c3, c4, hR _ _ hr, hf.below hb⟩
theorem Lies.below {w w' : World} (hb : Below w.heap.size w w') : ∀ (d : Nat) (v : Value) (t : Ty), Lies w d v t → Lies w' d v t
  | 0, _, _, h => h.elim
  | d + 1, _, .mk _ _ _ _ _, ⟨va, vr, h1, h2, h3⟩ => ⟨va, vr, h1, h2.mono (Lies.below hb d) hb, h3.mono (Lies.below hb d) hb⟩
theorem Lies.deeper {w : World} : ∀ (d : Nat) (v : Value) (t : Ty), Lies w d v t → Lies w (d + 1) v t
  | 0, _, _, h => h.elim
  | d + 1, _, .mk _ _ _ _ _, ⟨va, vr, h1, h2, h3⟩ => ⟨va, vr, h1, h2.mono (Lies.deeper d) (Below.refl _ _), h3.mono (Lies.deeper d) (Below.refl _ _)⟩
theorem Lies.le {w : World} {d d' : Nat} {v : Value} {t : Ty} (h : Lies w d v t) (hd : d ≤ d') : Lies w d' v t := by
  induction hd with
  | refl => exact h
  | step _ ih => exact Lies.deeper _ _ _ ih
theorem RowOf.below {w w' : World} {d : Nat} {v : Value} {l : List Ty} (h : RowOf (Lies w d) w v l) (hb : Below w.heap.size w w') : RowOf (Lies w' d) w' v l := h.mono (Lies.below hb d) hb
theorem RowOf.le {w : World} {d d' : Nat} {v : Value} {l : List Ty} (h : RowOf (Lies w d) w v l) (hd : d ≤ d') : RowOf (Lies w d') w v l := h.mono (fun _ _ h => h.le hd) (Below.refl _ _)
/-- one element of a row -/
theorem RowOf.get {R : Value → Ty → Prop} {w : World} {b o : Nat} {n c : Nat} {l : List Ty} (h : RowOf R w (.slice (some ⟨b, o, none⟩) n c) l) (i : Nat) (x : Ty) (hx : l[i]? = some x) :
    ∃ c0 c1 c2 c3 c4, R (.agg #[c0, c1, c2, c3, c4]) x ∧ Five w b (o + i * 5) c0 c1 c2 c3 c4 := by
  obtain ⟨a, c', h1, _, _, h4⟩ := h
  rcases h4 with h4 | ⟨b', o', h5, h6⟩
  · subst h4; simp at hx
  · subst h5
    simp only [Value.slice.injEq, Option.some.injEq, Addr.mk.injEq] at h1
    obtain ⟨⟨rfl, rfl, _⟩, _, _⟩ := h1
    exact h6 i x hx
/-- the form of a row's value -/
theorem RowOf.form {R : Value → Ty → Prop} {w : World} {v : Value} {l : List Ty} (h : RowOf R w v l) : ∃ a c, v = .slice a l.length c ∧ l.length ≤ c ∧ c ≤ maxLen ∧ (0 < l.length → ∃ b o, a = some ⟨b, o, none⟩) := by
  obtain ⟨a, c, h1, h2, h3, h4⟩ := h
  refine ⟨a, c, h1, h2, h3, fun hl => ?_⟩
  rcases h4 with rfl | ⟨b, o, h5, _⟩
  · simp at hl
  · exact ⟨b, o, h5⟩

/-! ### What a type read is -/
section
variable {P : Program} {H : Type} {enc : TypeId × Value → H} {W : World} {τ σ s i : TypeId}
theorem addr_add (b o k : Nat) : (⟨b, o, none⟩ : Addr).add k = ⟨b, o + k, none⟩ := by
  unfold Addr.add
  split <;> simp_all
theorem five_of_cells {base : Nat} {A : Addr} {cs : List Value} (h : W.cells? base A 5 = some cs) : ∃ b o c0 c1 c2 c3 c4, A = ⟨b, o, none⟩ ∧ cs = [c0, c1, c2, c3, c4] ∧ Five W b o c0 c1 c2 c3 c4 := by
  obtain ⟨_, hl, hc⟩ := World.cells?_some h
  obtain ⟨b, o, sp⟩ := A
  match cs, hl with
  | [c0, c1, c2, c3, c4], _ =>
    have h0 : W.cell? ⟨b, o, sp⟩ = some c0 := by
      have := hc 0 (by omega)
      rw [show (⟨b, o, sp⟩ : Addr).add 0 = ⟨b, o, sp⟩ by unfold Addr.add; simp] at this
      simpa using this
    have hs : sp = none := by
      cases sp with
      | none => rfl
      | some q => unfold World.cell? at h0; split at h0 <;> simp at h0
    subst hs
    have g : ∀ j, j < 5 → W.cell? ⟨b, o + j, none⟩ = [c0, c1, c2, c3, c4][j]? := fun j hj => by have := hc j hj; rwa [addr_add] at this
    exact ⟨b, o, c0, c1, c2, c3, c4, rfl, rfl, g 0 (by omega), g 1 (by omega), g 2 (by omega), g 3 (by omega), g 4 (by omega)⟩
end
end KindsP

/- How many parts a type has: the reference's Count. -/
namespace Go.Proofs.Ytcelpmojhjnggaa
open Go Go.RowKit KindsP
set_option maxHeartbeats 1000000
set_option maxRecDepth 100000

mutual
/-- parts of a type, up to a number of them -/
def cnt : Ty → Int → Int
  | .mk _ _ _ la lr, m => cntL lr m (cntL la m 1)
def cntL : List Ty → Int → Int → Int
  | [], _, n => n
  | x :: xs, m, n => if n ≤ m then cntL xs m (n + cnt x (m - n)) else n
end
theorem cntL_over (l : List Ty) (m n : Int) (h : ¬ n ≤ m) : cntL l m n = n := by
  cases l with
  | nil => rw [cntL]
  | cons x xs => rw [cntL, if_neg h]
mutual
theorem cnt_le : ∀ (t : Ty) (m : Int), 0 ≤ m → 1 ≤ cnt t m ∧ cnt t m ≤ m + 1
  | .mk _ _ _ la lr, m, h => by
    rw [cnt]
    obtain ⟨h1, h2⟩ := cntL_le la m 1 (by omega) (by omega)
    exact cntL_le lr m _ h1 h2
theorem cntL_le : ∀ (l : List Ty) (m n : Int), 1 ≤ n → n ≤ m + 1 → 1 ≤ cntL l m n ∧ cntL l m n ≤ m + 1
  | [], m, n, h1, h2 => by rw [cntL]; exact ⟨h1, h2⟩
  | x :: xs, m, n, h1, h2 => by
    rw [cntL]
    split
    · next h =>
      obtain ⟨g1, g2⟩ := cnt_le x (m - n) (by omega)
      exact cntL_le xs m _ (by omega) (by omega)
    · exact ⟨h1, h2⟩
end
theorem cntL_at (l : List Ty) (k : Nat) (h : k < l.length) (m n : Int) (hn : n ≤ m) : cntL (l.drop k) m n = cntL (l.drop (k + 1)) m (n + cnt l[k] (m - n)) := by
  rw [List.drop_eq_getElem_cons h, cntL, if_pos hn]

theorem count_any (d : Nat) : ∀ (w : World) (v : Value) (t : Ty) (m : Int), Lies w d v t → 0 ≤ m → m ≤ 100000 →
    Calls Try.prog 37 #[v, .int .i64 m] w fun e w' => e = .returned (.int .i64 (cnt t m)) ∧ Below w.heap.size w w' := by
  induction d with
  | zero => intro w v t m h; exact h.elim
  | succ d ih =>
  intro w v t m h hm0 hm1
  obtain ⟨kd, p, nm, la, lr⟩ := t
  obtain ⟨va, vr, rfl, ha, hr⟩ := h
  obtain ⟨aa, ca, rfl, hca, hcm, haf⟩ := ha.form
  obtain ⟨ar, cr, rfl, hcr, hcmr, hrf⟩ := hr.form
  have HA := Lib.hid ha
  have HR := Lib.hid hr
  clear ha hr
  have hla := Nat.le_trans hca hcm
  have hlr := Nat.le_trans hcr hcmr
  unfold maxLen at hla hlr
  obtain ⟨W1, hQ⟩ : ∃ W1, W1 = w.alloc (.cells #[.int .i64 kd, .string p, .string nm, .slice aa la.length ca, .slice ar lr.length cr] 31) := ⟨_, rfl⟩
  have HQ := Lib.hid hQ
  have HB1 := Lib.hid (show W1.heap[w.heap.size]? = some (.cells #[.int .i64 kd, .string p, .string nm, .slice aa la.length ca, .slice ar lr.length cr] 31) by rw [hQ]; exact heap_alloc_new w _)
  have HW1 := Lib.hid (show Below w.heap.size w W1 by rw [hQ]; exact (Below.refl _ _).alloc (Nat.le_refl _) _)
  have HS1 := Lib.hid (show w.heap.size + 1 ≤ W1.heap.size by rw [hQ]; simp)
  clear hQ
  go_enter Try.func37, Try.ntmps37
  go_wp2_with fail
  go_loopw [5, 6] (fun nv iv wr => ∃ (k : Nat) (n : Int), k ≤ la.length ∧ iv = .int .i64 k ∧ nv = .int .i64 n ∧ 1 ≤ n ∧ n ≤ m + 1 ∧ Below (w.heap.size + 1) W1 wr ∧ Hid (cntL la m 1 = cntL (la.drop k) m n)) (fun _ iv _ => la.length - (intOf iv).toNat)
  case atStart => exact ⟨0, 1, by omega, rfl, rfl, by omega, by omega, by rw [HQ.out]; exact Below.refl _ _, rfl⟩
  case round =>
    obtain ⟨k, n, hk, rfl, rfl, hn1, hn2, hb, H⟩ := hrel
    have hbox : wr.heap[w.heap.size]? = _ := (hb.block w.heap.size (by omega)).trans HB1.out
    have c3 : wr.cell? ⟨w.heap.size, 3, none⟩ = some (.slice aa la.length ca) := by simp [World.cell?, hbox]
    have HB := Lib.hid hb
    have HW := Lib.hid (HW1.out.trans (hb.mono (by omega)))
    clear hb hbox
    by_cases hlt : k < la.length
    · obtain ⟨b, o, rfl⟩ := haf (by omega)
      obtain ⟨x0, x1, x2, x3, x4, hl, hf⟩ := HA.out.get k la[k] (by simp)
      have hl' := Lib.hid (Lies.below HW.out _ _ _ hl)
      obtain ⟨f0, f1, f2, f3, f4⟩ := hf.below HW.out
      clear hl hf
      by_cases hnm : n ≤ m
      · have HC := Lib.hid (cnt_le la[k] (m - n) (by omega))
        have HS := Lib.hid (cntL_at la k hlt m n hnm)
        go_wp2_with (first | (go_at_call 37; refine (ih _ _ la[k] _ hl'.out (by omega) (by omega)).mono ?_; rintro e w2 ⟨rfl, hb2⟩; have HB2 := Lib.hid hb2; clear hb2; obtain ⟨q0, q1⟩ := HC.out))
        exact ⟨⟨k + 1, n + cnt la[k] (m - n), by omega, by go_num, by go_num, by omega, by omega, HB.out.trans (HB2.out.mono (Nat.le_trans HS1.out HB.out.size)), by show _ = _; rw [H.out, HS.out]⟩, by simp [intOf]; omega⟩
      · have HE := Lib.hid (show cntL la m 1 = n by rw [H.out]; exact cntL_over _ _ _ hnm)
        clear H hl' f0 f1 f2 f3 f4
        go_wp2_with fail
        have HE0 := HE
        have HB0 := HB
        have hn1' := hn1
        have hn2' := hn2
        clear HE HB HW c3 hn1 hn2
        generalize n = n0 at *
        go_loopw [5, 7] (fun nv iv wr => ∃ (k : Nat) (n : Int), k ≤ lr.length ∧ iv = .int .i64 k ∧ nv = .int .i64 n ∧ 1 ≤ n ∧ n ≤ m + 1 ∧ Below (w.heap.size + 1) W1 wr ∧ Hid (cntL lr m n0 = cntL (lr.drop k) m n)) (fun _ iv _ => lr.length - (intOf iv).toNat)
        case atStart => exact ⟨0, n0, by omega, rfl, rfl, hn1', hn2', HB0.out, rfl⟩
        case round =>
          obtain ⟨k, n, hk, rfl, rfl, hn1, hn2, hb, H⟩ := hrel
          have hbox : wr.heap[w.heap.size]? = _ := (hb.block w.heap.size (by omega)).trans HB1.out
          have c4 : wr.cell? ⟨w.heap.size, 4, none⟩ = some (.slice ar lr.length cr) := by simp [World.cell?, hbox]
          have HB := Lib.hid hb
          have HW := Lib.hid (HW1.out.trans (hb.mono (by omega)))
          clear hb hbox
          by_cases hlt : k < lr.length
          · obtain ⟨b, o, rfl⟩ := hrf (by omega)
            obtain ⟨x0, x1, x2, x3, x4, hl, hf⟩ := HR.out.get k lr[k] (by simp)
            have hl' := Lib.hid (Lies.below HW.out _ _ _ hl)
            obtain ⟨f0, f1, f2, f3, f4⟩ := hf.below HW.out
            clear hl hf
            by_cases hnm : n ≤ m
            · have HC := Lib.hid (cnt_le lr[k] (m - n) (by omega))
              have HS := Lib.hid (cntL_at lr k hlt m n hnm)
              go_wp2_with (first | (go_at_call 37; refine (ih _ _ lr[k] _ hl'.out (by omega) (by omega)).mono ?_; rintro e w2 ⟨rfl, hb2⟩; have HB2 := Lib.hid hb2; clear hb2; obtain ⟨q0, q1⟩ := HC.out))
              exact ⟨⟨k + 1, n + cnt lr[k] (m - n), by omega, by go_num, by go_num, by omega, by omega, HB.out.trans (HB2.out.mono (Nat.le_trans HS1.out HB.out.size)), by show _ = _; rw [H.out, HS.out]⟩, by simp [intOf]; omega⟩
            · have HE := Lib.hid (show cntL lr m n0 = n by rw [H.out]; exact cntL_over _ _ _ hnm)
              clear H hl' f0 f1 f2 f3 f4
              go_wp2_with fail
              go_ret
              refine ⟨?_, HW.out⟩
              rw [cnt, HE0.out, HE.out]; rfl
          · have HE := Lib.hid (show cntL lr m n0 = n by rw [H.out, List.drop_eq_nil_of_le (by omega), cntL])
            clear H
            go_wp2_with fail
            go_ret
            refine ⟨?_, HW.out⟩
            rw [cnt, HE0.out, HE.out]; rfl
    · have HE := Lib.hid (show cntL la m 1 = n by rw [H.out, List.drop_eq_nil_of_le (by omega), cntL])
      clear H
      go_wp2_with fail
      have HE0 := HE
      have HB0 := HB
      have hn1' := hn1
      have hn2' := hn2
      clear HE HB HW c3 hn1 hn2
      generalize n = n0 at *
      go_loopw [5, 7] (fun nv iv wr => ∃ (k : Nat) (n : Int), k ≤ lr.length ∧ iv = .int .i64 k ∧ nv = .int .i64 n ∧ 1 ≤ n ∧ n ≤ m + 1 ∧ Below (w.heap.size + 1) W1 wr ∧ Hid (cntL lr m n0 = cntL (lr.drop k) m n)) (fun _ iv _ => lr.length - (intOf iv).toNat)
      case atStart => exact ⟨0, n0, by omega, rfl, rfl, hn1', hn2', HB0.out, rfl⟩
      case round =>
        obtain ⟨k, n, hk, rfl, rfl, hn1, hn2, hb, H⟩ := hrel
        have hbox : wr.heap[w.heap.size]? = _ := (hb.block w.heap.size (by omega)).trans HB1.out
        have c4 : wr.cell? ⟨w.heap.size, 4, none⟩ = some (.slice ar lr.length cr) := by simp [World.cell?, hbox]
        have HB := Lib.hid hb
        have HW := Lib.hid (HW1.out.trans (hb.mono (by omega)))
        clear hb hbox
        by_cases hlt : k < lr.length
        · obtain ⟨b, o, rfl⟩ := hrf (by omega)
          obtain ⟨x0, x1, x2, x3, x4, hl, hf⟩ := HR.out.get k lr[k] (by simp)
          have hl' := Lib.hid (Lies.below HW.out _ _ _ hl)
          obtain ⟨f0, f1, f2, f3, f4⟩ := hf.below HW.out
          clear hl hf
          by_cases hnm : n ≤ m
          · have HC := Lib.hid (cnt_le lr[k] (m - n) (by omega))
            have HS := Lib.hid (cntL_at lr k hlt m n hnm)
            go_wp2_with (first | (go_at_call 37; refine (ih _ _ lr[k] _ hl'.out (by omega) (by omega)).mono ?_; rintro e w2 ⟨rfl, hb2⟩; have HB2 := Lib.hid hb2; clear hb2; obtain ⟨q0, q1⟩ := HC.out))
            exact ⟨⟨k + 1, n + cnt lr[k] (m - n), by omega, by go_num, by go_num, by omega, by omega, HB.out.trans (HB2.out.mono (Nat.le_trans HS1.out HB.out.size)), by show _ = _; rw [H.out, HS.out]⟩, by simp [intOf]; omega⟩
          · have HE := Lib.hid (show cntL lr m n0 = n by rw [H.out]; exact cntL_over _ _ _ hnm)
            clear H hl' f0 f1 f2 f3 f4
            go_wp2_with fail
            go_ret
            refine ⟨?_, HW.out⟩
            rw [cnt, HE0.out, HE.out]; rfl
        · have HE := Lib.hid (show cntL lr m n0 = n by rw [H.out, List.drop_eq_nil_of_le (by omega), cntL])
          clear H
          go_wp2_with fail
          go_ret
          refine ⟨?_, HW.out⟩
          rw [cnt, HE0.out, HE.out]; rfl
end Go.Proofs.Ytcelpmojhjnggaa
