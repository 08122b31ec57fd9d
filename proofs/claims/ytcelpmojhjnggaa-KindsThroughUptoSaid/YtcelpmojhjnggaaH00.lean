/- Types in memory, in plain words. -/
import Derived.ProofKit
import Derived.Below
import Derived.Deep.Slices
import Derived.Lib.Hide
import Derived.Test.YtcelpmojhjnggaaProg
import Derived.WalkKit
import Derived.WalkSpells
import Derived.WalkLawsBesides
import Derived.Deep.QuietTactic
import Derived.BigQuiet
import Derived.Deep.RegionLaw
import Derived.OwnWalk
import Derived.WalkSmall
import Derived.Lib.QuietBelow
import Derived.Laws.StructEq
namespace KindsP
open Go Go.RowKit

/-- a type, as it is written -/
inductive Ty where
  | mk : Int → ByteArray → ByteArray → List Ty → List Ty → Ty

/-- the five cells of a type behind an address -/
structure Five (w : World) (b o : Nat) (c0 c1 c2 c3 c4 : Value) : Prop where
  c0 : w.cell? ⟨b, o, none⟩ = some c0
  c1 : w.cell? ⟨b, o + 1, none⟩ = some c1
  c2 : w.cell? ⟨b, o + 2, none⟩ = some c2
  c3 : w.cell? ⟨b, o + 3, none⟩ = some c3
  c4 : w.cell? ⟨b, o + 4, none⟩ = some c4
/-- a slice that holds types: each element's five cells, and what R says of them -/
def RowOf (R : Value → Ty → Prop) (w : World) (v : Value) (l : List Ty) : Prop :=
  ∃ a c, v = .slice a l.length c ∧ l.length ≤ c ∧ c ≤ maxLen ∧ (l = [] ∨ ∃ b o, a = some ⟨b, o, none⟩ ∧ ∀ i x, l[i]? = some x → ∃ c0 c1 c2 c3 c4, R (.agg #[c0, c1, c2, c3, c4]) x ∧ Five w b (o + i * 5) c0 c1 c2 c3 c4)
/-- a type lies in memory, no deeper than d -/
def Lies (w : World) : Nat → Value → Ty → Prop
  | 0, _, _ => False
  | d + 1, v, .mk k p n la lr => ∃ va vr, v = .agg #[.int .i64 k, .string p, .string n, va, vr] ∧ RowOf (Lies w d) w va la ∧ RowOf (Lies w d) w vr lr

theorem Five.below {w w' : World} {b o : Nat} {c0 c1 c2 c3 c4 : Value} (h : Five w b o c0 c1 c2 c3 c4) (hb : Below w.heap.size w w') : Five w' b o c0 c1 c2 c3 c4 := by
  have hlt : b < w.heap.size := World.block_lt_of_cell? w _ h.c0
  exact ⟨(hb.cell (p := ⟨b, o, none⟩) hlt).trans h.c0, (hb.cell (p := ⟨b, o + 1, none⟩) hlt).trans h.c1, (hb.cell (p := ⟨b, o + 2, none⟩) hlt).trans h.c2, (hb.cell (p := ⟨b, o + 3, none⟩) hlt).trans h.c3, (hb.cell (p := ⟨b, o + 4, none⟩) hlt).trans h.c4⟩
theorem RowOf.mono {R R' : Value → Ty → Prop} {w w' : World} {v : Value} {l : List Ty} (h : RowOf R w v l) (hR : ∀ v t, R v t → R' v t) (hb : Below w.heap.size w w') : RowOf R' w' v l := by
  obtain ⟨a, c, h1, h2, h3, h4⟩ := h
  refine ⟨a, c, h1, h2, h3, ?_⟩
  rcases h4 with h4 | ⟨b, o, h5, h6⟩
  · exact .inl h4
  · refine .inr ⟨b, o, h5, fun i x hx => ?_⟩
    obtain ⟨c0, c1, c2, c3, c4, hr, hf⟩ := h6 i x hx
    exact ⟨c0, c1, c2, c3, c4, hR _ _ hr, hf.below hb⟩
theorem Lies.below {w w' : World} (hb : Below w.heap.size w w') : ∀ (d : Nat) (v : Value) (t : Ty), Lies w d v t → Lies w' d v t
  | 0, _, _, h => h.elim
  | d + 1, _, .mk _ _ _ _ _, ⟨va, vr, h1, h2, h3⟩ => ⟨va, vr, h1, h2.mono (Lies.below hb d) hb, h3.mono (Lies.below hb d) hb⟩
theorem Lies.deeper {w : World} : ∀ (d : Nat) (v : Value) (t : Ty), Lies w d v t → Lies w (d + 1) v t
  | 0, _, _, h => h.elim
  | d + 1, _, .mk _ _ _ _ _, ⟨va, vr, h1, h2, h3⟩ => ⟨va, vr, h1, h2.mono (Lies.deeper d) (Below.refl _ _), h3.mono (Lies.deeper d) (Below.refl _ _)⟩
theorem Lies.le {w : World} {d d' : Nat} {v : Value} {t : Ty} (h : Lies w d v t) (hd : d ≤ d') : Lies w d' v t := by
  induction hd with
  | refl => exact h
  | step _ ih => exact Lies.deeper _ _ _ ih
theorem RowOf.below {w w' : World} {d : Nat} {v : Value} {l : List Ty} (h : RowOf (Lies w d) w v l) (hb : Below w.heap.size w w') : RowOf (Lies w' d) w' v l := h.mono (Lies.below hb d) hb
theorem RowOf.le {w : World} {d d' : Nat} {v : Value} {l : List Ty} (h : RowOf (Lies w d) w v l) (hd : d ≤ d') : RowOf (Lies w d') w v l := h.mono (fun _ _ h => h.le hd) (Below.refl _ _)
/-- one element of a row -/
theorem RowOf.get {R : Value → Ty → Prop} {w : World} {b o : Nat} {n c : Nat} {l : List Ty} (h : RowOf R w (.slice (some ⟨b, o, none⟩) n c) l) (i : Nat) (x : Ty) (hx : l[i]? = some x) :
    ∃ c0 c1 c2 c3 c4, R (.agg #[c0, c1, c2, c3, c4]) x ∧ Five w b (o + i * 5) c0 c1 c2 c3 c4 := by
  obtain ⟨a, c', h1, _, _, h4⟩ := h
  rcases h4 with h4 | ⟨b', o', h5, h6⟩
  · subst h4; simp at hx
  · subst h5
    simp only [Value.slice.injEq, Option.some.injEq, Addr.mk.injEq] at h1
    obtain ⟨⟨rfl, rfl, _⟩, _, _⟩ := h1
    exact h6 i x hx
/-- the form of a row's value -/
theorem RowOf.form {R : Value → Ty → Prop} {w : World} {v : Value} {l : List Ty} (h : RowOf R w v l) : ∃ a c, v = .slice a l.length c ∧ l.length ≤ c ∧ c ≤ maxLen ∧ (0 < l.length → ∃ b o, a = some ⟨b, o, none⟩) := by
  obtain ⟨a, c, h1, h2, h3, h4⟩ := h
  refine ⟨a, c, h1, h2, h3, fun hl => ?_⟩
  rcases h4 with rfl | ⟨b, o, h5, _⟩
  · simp at hl
  · exact ⟨b, o, h5⟩

/-! ### What a type read is -/
section
variable {P : Program} {H : Type} {enc : TypeId × Value → H} {W : World} {τ σ s i : TypeId}
theorem addr_add (b o k : Nat) : (⟨b, o, none⟩ : Addr).add k = ⟨b, o + k, none⟩ := by
  unfold Addr.add
  split <;> simp_all
theorem five_of_cells {base : Nat} {A : Addr} {cs : List Value} (h : W.cells? base A 5 = some cs) : ∃ b o c0 c1 c2 c3 c4, A = ⟨b, o, none⟩ ∧ cs = [c0, c1, c2, c3, c4] ∧ Five W b o c0 c1 c2 c3 c4 := by
  obtain ⟨_, hl, hc⟩ := World.cells?_some h
  obtain ⟨b, o, sp⟩ := A
  match cs, hl with
  | [c0, c1, c2, c3, c4], _ =>
    have h0 : W.cell? ⟨b, o, sp⟩ = some c0 := by
      have := hc 0 (by omega)
      rw [show (⟨b, o, sp⟩ : Addr).add 0 = ⟨b, o, sp⟩ by unfold Addr.add; simp] at this
      simpa using this
    have hs : sp = none := by
      cases sp with
      | none => rfl
      | some q => unfold World.cell? at h0; split at h0 <;> simp at h0
    subst hs
    have g : ∀ j, j < 5 → W.cell? ⟨b, o + j, none⟩ = [c0, c1, c2, c3, c4][j]? := fun j hj => by have := hc j hj; rwa [addr_add] at this
    exact ⟨b, o, c0, c1, c2, c3, c4, rfl, rfl, g 0 (by omega), g 1 (by omega), g 2 (by omega), g 3 (by omega), g 4 (by omega)⟩
end
end KindsP

/- How many parts a type has: the reference's Count. -/
namespace Go.Proofs.Ytcelpmojhjnggaa
open Go Go.RowKit KindsP
set_option maxHeartbeats 1000000
set_option maxRecDepth 100000

mutual
/-- parts of a type, up to a number of them -/
def cnt : Ty → Int → Int
  | .mk _ _ _ la lr, m => cntL lr m (cntL la m 1)
def cntL : List Ty → Int → Int → Int
  | [], _, n => n
  | x :: xs, m, n => if n ≤ m then cntL xs m (n + cnt x (m - n)) else n
end
theorem cntL_over (l : List Ty) (m n : Int) (h : ¬ n ≤ m) : cntL l m n = n := by
  cases l with
  | nil => rw [cntL]
  | cons x xs => rw [cntL, if_neg h]
mutual
theorem cnt_le : ∀ (t : Ty) (m : Int), 0 ≤ m → 1 ≤ cnt t m ∧ cnt t m ≤ m + 1
  | .mk _ _ _ la lr, m, h => by
    rw [cnt]
    obtain ⟨h1, h2⟩ := cntL_le la m 1 (by omega) (by omega)
    exact cntL_le lr m _ h1 h2
theorem cntL_le : ∀ (l : List Ty) (m n : Int), 1 ≤ n → n ≤ m + 1 → 1 ≤ cntL l m n ∧ cntL l m n ≤ m + 1
  | [], m, n, h1, h2 => by rw [cntL]; exact ⟨h1, h2⟩
  | x :: xs, m, n, h1, h2 => by
    rw [cntL]
    split
    · next h =>
      obtain ⟨g1, g2⟩ := cnt_le x (m - n) (by omega)
      exact cntL_le xs m _ (by omega) (by omega)
    · exact ⟨h1, h2⟩
end
theorem cntL_at (l : List Ty) (k : Nat) (h : k < l.length) (m n : Int) (hn : n ≤ m) : cntL (l.drop k) m n = cntL (l.drop (k + 1)) m (n + cnt l[k] (m - n)) := by
  rw [List.drop_eq_getElem_cons h, cntL, if_pos hn]

theorem count_any (d : Nat) : ∀ (w : World) (v : Value) (t : Ty) (m : Int), Lies w d v t → 0 ≤ m → m ≤ 100000 →
    Calls Try.prog 37 #[v, .int .i64 m] w fun e w' => e = .returned (.int .i64 (cnt t m)) ∧ Below w.heap.size w w' := by
  induction d with
  | zero => intro w v t m h; exact h.elim
  | succ d ih =>
  intro w v t m h hm0 hm1
  obtain ⟨kd, p, nm, la, lr⟩ := t
  obtain ⟨va, vr, rfl, ha, hr⟩ := h
  obtain ⟨aa, ca, rfl, hca, hcm, haf⟩ := ha.form
  obtain ⟨ar, cr, rfl, hcr, hcmr, hrf⟩ := hr.form
  have HA := Lib.hid ha
  have HR := Lib.hid hr
  clear ha hr
  have hla := Nat.le_trans hca hcm
  have hlr := Nat.le_trans hcr hcmr
  unfold maxLen at hla hlr
  obtain ⟨W1, hQ⟩ : ∃ W1, W1 = w.alloc (.cells #[.int .i64 kd, .string p, .string nm, .slice aa la.length ca, .slice ar lr.length cr] 31) := ⟨_, rfl⟩
  have HQ := Lib.hid hQ
  have HB1 := Lib.hid (show W1.heap[w.heap.size]? = some (.cells #[.int .i64 kd, .string p, .string nm, .slice aa la.length ca, .slice ar lr.length cr] 31) by rw [hQ]; exact heap_alloc_new w _)
  have HW1 := Lib.hid (show Below w.heap.size w W1 by rw [hQ]; exact (Below.refl _ _).alloc (Nat.le_refl _) _)
  have HS1 := Lib.hid (show w.heap.size + 1 ≤ W1.heap.size by rw [hQ]; simp)
  clear hQ
  go_enter Try.func37, Try.ntmps37
  go_wp2_with fail
  go_loopw [5, 6] (fun nv iv wr => ∃ (k : Nat) (n : Int), k ≤ la.length ∧ iv = .int .i64 k ∧ nv = .int .i64 n ∧ 1 ≤ n ∧ n ≤ m + 1 ∧ Below (w.heap.size + 1) W1 wr ∧ Hid (cntL la m 1 = cntL (la.drop k) m n)) (fun _ iv _ => la.length - (intOf iv).toNat)
  case atStart => exact ⟨0, 1, by omega, rfl, rfl, by omega, by omega, by rw [HQ.out]; exact Below.refl _ _, rfl⟩
  case round =>
    obtain ⟨k, n, hk, rfl, rfl, hn1, hn2, hb, H⟩ := hrel
    have hbox : wr.heap[w.heap.size]? = _ := (hb.block w.heap.size (by omega)).trans HB1.out
    have c3 : wr.cell? ⟨w.heap.size, 3, none⟩ = some (.slice aa la.length ca) := by simp [World.cell?, hbox]
    have HB := Lib.hid hb
    have HW := Lib.hid (HW1.out.trans (hb.mono (by omega)))
    clear hb hbox
    by_cases hlt : k < la.length
    · obtain ⟨b, o, rfl⟩ := haf (by omega)
      obtain ⟨x0, x1, x2, x3, x4, hl, hf⟩ := HA.out.get k la[k] (by simp)
      have hl' := Lib.hid (Lies.below HW.out _ _ _ hl)
      obtain ⟨f0, f1, f2, f3, f4⟩ := hf.below HW.out
      clear hl hf
      by_cases hnm : n ≤ m
      · have HC := Lib.hid (cnt_le la[k] (m - n) (by omega))
        have HS := Lib.hid (cntL_at la k hlt m n hnm)
        go_wp2_with (first | (go_at_call 37; refine (ih _ _ la[k] _ hl'.out (by omega) (by omega)).mono ?_; rintro e w2 ⟨rfl, hb2⟩; have HB2 := Lib.hid hb2; clear hb2; obtain ⟨q0, q1⟩ := HC.out))
        exact ⟨⟨k + 1, n + cnt la[k] (m - n), by omega, by go_num, by go_num, by omega, by omega, HB.out.trans (HB2.out.mono (Nat.le_trans HS1.out HB.out.size)), by show _ = _; rw [H.out, HS.out]⟩, by simp [intOf]; omega⟩
      · have HE := Lib.hid (show cntL la m 1 = n by rw [H.out]; exact cntL_over _ _ _ hnm)
        clear H hl' f0 f1 f2 f3 f4
        go_wp2_with fail
        have HE0 := HE
        have HB0 := HB
        have hn1' := hn1
        have hn2' := hn2
        clear HE HB HW c3 hn1 hn2
        generalize n = n0 at *
        go_loopw [5, 7] (fun nv iv wr => ∃ (k : Nat) (n : Int), k ≤ lr.length ∧ iv = .int .i64 k ∧ nv = .int .i64 n ∧ 1 ≤ n ∧ n ≤ m + 1 ∧ Below (w.heap.size + 1) W1 wr ∧ Hid (cntL lr m n0 = cntL (lr.drop k) m n)) (fun _ iv _ => lr.length - (intOf iv).toNat)
        case atStart => exact ⟨0, n0, by omega, rfl, rfl, hn1', hn2', HB0.out, rfl⟩
        case round =>
          obtain ⟨k, n, hk, rfl, rfl, hn1, hn2, hb, H⟩ := hrel
          have hbox : wr.heap[w.heap.size]? = _ := (hb.block w.heap.size (by omega)).trans HB1.out
          have c4 : wr.cell? ⟨w.heap.size, 4, none⟩ = some (.slice ar lr.length cr) := by simp [World.cell?, hbox]
          have HB := Lib.hid hb
          have HW := Lib.hid (HW1.out.trans (hb.mono (by omega)))
          clear hb hbox
          by_cases hlt : k < lr.length
          · obtain ⟨b, o, rfl⟩ := hrf (by omega)
            obtain ⟨x0, x1, x2, x3, x4, hl, hf⟩ := HR.out.get k lr[k] (by simp)
            have hl' := Lib.hid (Lies.below HW.out _ _ _ hl)
            obtain ⟨f0, f1, f2, f3, f4⟩ := hf.below HW.out
            clear hl hf
            by_cases hnm : n ≤ m
            · have HC := Lib.hid (cnt_le lr[k] (m - n) (by omega))
              have HS := Lib.hid (cntL_at lr k hlt m n hnm)
              go_wp2_with (first | (go_at_call 37; refine (ih _ _ lr[k] _ hl'.out (by omega) (by omega)).mono ?_; rintro e w2 ⟨rfl, hb2⟩; have HB2 := Lib.hid hb2; clear hb2; obtain ⟨q0, q1⟩ := HC.out))
              exact ⟨⟨k + 1, n + cnt lr[k] (m - n), by omega, by go_num, by go_num, by omega, by omega, HB.out.trans (HB2.out.mono (Nat.le_trans HS1.out HB.out.size)), by show _ = _; rw [H.out, HS.out]⟩, by simp [intOf]; omega⟩
            · have HE := Lib.hid (show cntL lr m n0 = n by rw [H.out]; exact cntL_over _ _ _ hnm)
              clear H hl' f0 f1 f2 f3 f4
              go_wp2_with fail
              go_ret
              refine ⟨?_, HW.out⟩
              rw [cnt, HE0.out, HE.out]; rfl
          · have HE := Lib.hid (show cntL lr m n0 = n by rw [H.out, List.drop_eq_nil_of_le (by omega), cntL])
            clear H
            go_wp2_with fail
            go_ret
            refine ⟨?_, HW.out⟩
            rw [cnt, HE0.out, HE.out]; rfl
    · have HE := Lib.hid (show cntL la m 1 = n by rw [H.out, List.drop_eq_nil_of_le (by omega), cntL])
      clear H
      go_wp2_with fail
      have HE0 := HE
      have HB0 := HB
      have hn1' := hn1
      have hn2' := hn2
      clear HE HB HW c3 hn1 hn2
      generalize n = n0 at *
      go_loopw [5, 7] (fun nv iv wr => ∃ (k : Nat) (n : Int), k ≤ lr.length ∧ iv = .int .i64 k ∧ nv = .int .i64 n ∧ 1 ≤ n ∧ n ≤ m + 1 ∧ Below (w.heap.size + 1) W1 wr ∧ Hid (cntL lr m n0 = cntL (lr.drop k) m n)) (fun _ iv _ => lr.length - (intOf iv).toNat)
      case atStart => exact ⟨0, n0, by omega, rfl, rfl, hn1', hn2', HB0.out, rfl⟩
      case round =>
        obtain ⟨k, n, hk, rfl, rfl, hn1, hn2, hb, H⟩ := hrel
        have hbox : wr.heap[w.heap.size]? = _ := (hb.block w.heap.size (by omega)).trans HB1.out
        have c4 : wr.cell? ⟨w.heap.size, 4, none⟩ = some (.slice ar lr.length cr) := by simp [World.cell?, hbox]
        have HB := Lib.hid hb
        have HW := Lib.hid (HW1.out.trans (hb.mono (by omega)))
        clear hb hbox
        by_cases hlt : k < lr.length
        · obtain ⟨b, o, rfl⟩ := hrf (by omega)
          obtain ⟨x0, x1, x2, x3, x4, hl, hf⟩ := HR.out.get k lr[k] (by simp)
          have hl' := Lib.hid (Lies.below HW.out _ _ _ hl)
          obtain ⟨f0, f1, f2, f3, f4⟩ := hf.below HW.out
          clear hl hf
          by_cases hnm : n ≤ m
          · have HC := Lib.hid (cnt_le lr[k] (m - n) (by omega))
            have HS := Lib.hid (cntL_at lr k hlt m n hnm)
            go_wp2_with (first | (go_at_call 37; refine (ih _ _ lr[k] _ hl'.out (by omega) (by omega)).mono ?_; rintro e w2 ⟨rfl, hb2⟩; have HB2 := Lib.hid hb2; clear hb2; obtain ⟨q0, q1⟩ := HC.out))
            exact ⟨⟨k + 1, n + cnt lr[k] (m - n), by omega, by go_num, by go_num, by omega, by omega, HB.out.trans (HB2.out.mono (Nat.le_trans HS1.out HB.out.size)), by show _ = _; rw [H.out, HS.out]⟩, by simp [intOf]; omega⟩
          · have HE := Lib.hid (show cntL lr m n0 = n by rw [H.out]; exact cntL_over _ _ _ hnm)
            clear H hl' f0 f1 f2 f3 f4
            go_wp2_with fail
            go_ret
            refine ⟨?_, HW.out⟩
            rw [cnt, HE0.out, HE.out]; rfl
        · have HE := Lib.hid (show cntL lr m n0 = n by rw [H.out, List.drop_eq_nil_of_le (by omega), cntL])
          clear H
          go_wp2_with fail
          go_ret
          refine ⟨?_, HW.out⟩
          rw [cnt, HE0.out, HE.out]; rfl
end Go.Proofs.Ytcelpmojhjnggaa

/- More parts than a statement goes through; two types that are one. -/
namespace Go.Proofs.Ytcelpmojhjnggaa
open Go Go.RowKit Go.Sort KindsP
set_option maxHeartbeats 1000000
set_option maxRecDepth 100000

theorem cntL_0 (l : List Ty) (m n : Int) (h0 : 0 ≤ n) (h1 : n ≤ m + 1) : cntL l m n ≤ m + 1 ∧ 0 ≤ cntL l m n := by
  cases l with
  | nil => rw [cntL]; exact ⟨h1, h0⟩
  | cons x xs =>
    rw [cntL]
    split
    · next h =>
      obtain ⟨g1, g2⟩ := cnt_le x (m - n) (by omega)
      obtain ⟨g3, g4⟩ := cntL_le xs m (n + cnt x (m - n)) (by omega) (by omega)
      omega
    · omega
def greatB (l : List Ty) : Bool := decide (400 < cntL l 400 0)
theorem great_any (d : Nat) (w : World) (v : Value) (l : List Ty) (h : RowOf (Lies w d) w v l) : Calls Try.prog 12 #[v] w fun e w' => e = .returned (.bool (greatB l)) ∧ Below w.heap.size w w' := by
  obtain ⟨a, c, rfl, hc, hcm, hf⟩ := h.form
  have HA := Lib.hid h
  have hll := Nat.le_trans hc hcm
  unfold maxLen at hll
  clear h
  go_enter Try.func12, Try.ntmps12
  go_wp2_with fail
  go_loopw [3, 4] (fun nv iv wr => ∃ (k : Nat) (n : Int), k ≤ l.length ∧ iv = .int .i64 k ∧ nv = .int .i64 n ∧ 0 ≤ n ∧ n ≤ 401 ∧ Below w.heap.size w wr ∧ Hid (cntL l 400 0 = cntL (l.drop k) 400 n)) (fun _ iv _ => l.length - (intOf iv).toNat)
  case atStart => exact ⟨0, 0, by omega, rfl, rfl, by omega, by omega, Below.refl _ _, rfl⟩
  case round =>
    obtain ⟨k, n, hk, rfl, rfl, hn1, hn2, hb, H⟩ := hrel
    have HB := Lib.hid hb
    clear hb
    by_cases hlt : k < l.length
    · obtain ⟨b, o, rfl⟩ := hf (by omega)
      obtain ⟨x0, x1, x2, x3, x4, hl, hf⟩ := HA.out.get k l[k] (by simp)
      have hl' := Lib.hid (Lies.below HB.out _ _ _ hl)
      obtain ⟨f0, f1, f2, f3, f4⟩ := hf.below HB.out
      clear hl hf
      by_cases hnm : n ≤ 400
      · have HC := Lib.hid (cnt_le l[k] (400 - n) (by omega))
        have HS := Lib.hid (cntL_at l k hlt 400 n hnm)
        go_wp2_with (first | (go_at_call 37; refine (count_any d _ _ l[k] _ hl'.out (by omega) (by omega)).mono ?_; rintro e w2 ⟨rfl, hb2⟩; have HB2 := Lib.hid hb2; clear hb2; obtain ⟨q0, q1⟩ := HC.out))
        exact ⟨⟨k + 1, n + cnt l[k] (400 - n), by omega, by go_num, by go_num, by omega, by omega, HB.out.trans (HB2.out.mono HB.out.size), by show _ = _; rw [H.out, HS.out]⟩, by simp [intOf]; omega⟩
      · have HE := Lib.hid (show greatB l = true by rw [greatB, H.out, cntL_over _ _ _ hnm]; simpa using hnm)
        clear H hl' f0 f1 f2 f3 f4
        go_wp2_with fail
        go_ret
        refine ⟨?_, HB.out⟩
        rw [HE.out]
        simp
    · have HE := Lib.hid (show greatB l = decide (400 < n) by rw [greatB, H.out, List.drop_eq_nil_of_le (by omega), cntL])
      clear H
      go_wp2_with fail
      go_ret
      refine ⟨?_, HB.out⟩
      rw [HE.out]
      rfl

mutual
/-- are two types one? -/
def sameT : Ty → Ty → Bool
  | .mk k p n la lr, .mk k' p' n' la' lr' => (k == k') && ((p == p') && ((n == n') && (sameL la la' && sameL lr lr')))
def sameL : List Ty → List Ty → Bool
  | [], [] => true
  | x :: xs, y :: ys => sameT x y && sameL xs ys
  | _, _ => false
end
theorem sameL_len : ∀ (l l' : List Ty), l.length ≠ l'.length → sameL l l' = false
  | [], [], h => absurd rfl h
  | x :: xs, y :: ys, h => by rw [sameL, sameL_len xs ys (by simpa using h), Bool.and_false]
  | [], _ :: _, _ => by simp [sameL]
  | _ :: _, [], _ => by simp [sameL]
theorem sameL_at (l l' : List Ty) (k : Nat) (h : k < l.length) (h' : k < l'.length) : sameL (l.drop k) (l'.drop k) = (sameT l[k] l'[k] && sameL (l.drop (k + 1)) (l'.drop (k + 1))) := by
  rw [List.drop_eq_getElem_cons h, List.drop_eq_getElem_cons h', sameL]

abbrev fSame : Value := .func (.func 21) #[] #[]
theorem all_any (d d' : Nat) (w : World) (v v' : Value) (l l' : List Ty) (h : RowOf (Lies w d) w v l) (h' : RowOf (Lies w d') w v' l')
    (ih : ∀ (w : World) (v v' : Value) (t t' : Ty), Lies w d v t → Lies w d' v' t' → Calls Try.prog 21 #[v, v'] w fun e w' => e = .returned (.bool (sameT t t')) ∧ Below w.heap.size w w') :
    Calls Try.prog 45 #[v, v', fSame] w fun e w' => e = .returned (.bool (sameL l l')) ∧ Below w.heap.size w w' := by
  obtain ⟨a, c, rfl, hc, hcm, hf⟩ := h.form
  obtain ⟨a', c', rfl, hc', hcm', hf'⟩ := h'.form
  have HA := Lib.hid h
  have HA' := Lib.hid h'
  have hll := Nat.le_trans hc hcm
  have hll' := Nat.le_trans hc' hcm'
  unfold maxLen at hll hll'
  clear h h'
  by_cases hlen : l.length = l'.length
  case neg =>
    have e0 : ((l.length : Int) != (l'.length : Int)) = true := by simp; omega
    have HE := Lib.hid (sameL_len l l' hlen)
    go_enter Try.func45, Try.ntmps45
    go_wp2_with fail
    go_ret
    exact ⟨by rw [HE.out]; rfl, Below.refl _ _⟩
  have e0 : ((l.length : Int) != (l'.length : Int)) = false := by simp; omega
  have HLEN := Lib.hid hlen
  clear hlen
  go_enter Try.func45, Try.ntmps45
  go_wp2_with fail
  go_loopw [15] (fun iv wr => ∃ k : Nat, k ≤ l.length ∧ iv = .int .i64 k ∧ Below w.heap.size w wr ∧ Hid (sameL l l' = sameL (l.drop k) (l'.drop k))) (fun iv _ => l.length - (intOf iv).toNat)
  case atStart => exact ⟨0, by omega, rfl, Below.refl _ _, rfl⟩
  case round =>
    obtain ⟨k, hk, rfl, hb, H⟩ := hrel
    have HB := Lib.hid hb
    clear hb
    by_cases hlt : k < l.length
    · have hlt' : k < l'.length := by have := HLEN.out; omega
      obtain ⟨b, o, rfl⟩ := hf (by omega)
      obtain ⟨b', o', rfl⟩ := hf' (by omega)
      obtain ⟨x0, x1, x2, x3, x4, hl, hf⟩ := HA.out.get k l[k] (by simp)
      obtain ⟨y0, y1, y2, y3, y4, hl', hf'⟩ := HA'.out.get k l'[k] (by simp)
      obtain ⟨f0, f1, f2, f3, f4⟩ := hf.below HB.out
      obtain ⟨g0, g1, g2, g3, g4⟩ := hf'.below HB.out
      have r0 := cell_regrown f0
      have r1 := cell_regrown f1
      have r2 := cell_regrown f2
      have r3 := cell_regrown f3
      have r4 := cell_regrown f4
      have s0 := cell_regrown g0
      have s1 := cell_regrown g1
      have s2 := cell_regrown g2
      have s3 := cell_regrown g3
      have s4 := cell_regrown g4
      have cX := fun d os => Calls.regrown_of (ih (grow (redrawn wr d) os) _ _ l[k] l'[k] (Lies.below (HB.out.trans ((below_regrown wr d os).mono HB.out.size)) _ _ _ hl) (Lies.below (HB.out.trans ((below_regrown wr d os).mono HB.out.size)) _ _ _ hl'))
      have HS := Lib.hid (sameL_at l l' k hlt hlt')
      clear hl hl' hf hf' f0 f1 f2 f3 f4 g0 g1 g2 g3 g4
      cases hsm : sameT l[k] l'[k]
      all_goals
        rw [hsm] at cX
        have HM := Lib.hid hsm
        clear hsm
        go_wp2_with (refine wp_region_quiet_below (by kernel_rfl) (by kernel_rfl) ?_; quiet_step (fail); quiet_step (fail); quiet_step (fail); quiet_step (fail); quiet_step (fail); quiet_step (fail); quiet_step (fail); quiet_step (fail); quiet_step (fail); quiet_step (exact cX _ _); quiet_step (fail); refine wpQuiet_nil ?_; intro _ hw'; obtain ⟨⟨dq, osq⟩, hw''⟩ := hw'; subst hw'')
      · go_wp2
        go_ret
        exact ⟨by rw [H.out, HS.out, HM.out]; rfl, HB.out.trans ((below_regrown wr dq osq).mono HB.out.size)⟩
      · go_wp2
        exact ⟨⟨k + 1, by omega, by go_num, HB.out.trans ((below_regrown wr dq osq).mono HB.out.size), by show _ = _; rw [H.out, HS.out, HM.out, Bool.true_and]⟩, by simp [intOf]; omega⟩
    · have HE := Lib.hid (show sameL l l' = true by rw [H.out, List.drop_eq_nil_of_le (by omega), List.drop_eq_nil_of_le (by have := HLEN.out; omega)]; simp [sameL])
      clear H
      go_wp2_with fail
      go_ret
      exact ⟨by rw [HE.out]; rfl, HB.out⟩
theorem alloc_known {w w2 : World} {cs : Array Value} {t : TypeId} {fr : Nat × Nat} (hb : Below (w.alloc (.cells cs t fr)).heap.size (w.alloc (.cells cs t fr)) w2) : w2.heap[w.heap.size]? = some (.cells cs t fr) ∧ Below w.heap.size w w2 := by
  have hs : (w.alloc (.cells cs t fr)).heap.size = w.heap.size + 1 := Array.size_push _
  refine ⟨?_, ?_⟩
  · rw [hb.block _ (by omega)]
    exact (show (w.heap.push _)[w.heap.size]? = _ from Array.getElem?_push_size)
  · have h1 : Below w.heap.size w (w.alloc (.cells cs t fr)) := (Below.refl _ _).alloc (Nat.le_refl _) _
    exact h1.trans ⟨hb.os, hb.tape, hb.output, hb.size, fun k hk => hb.block k (by omega)⟩
theorem alloc_known2 {w w2 : World} {cs ds : Array Value} {t u : TypeId} {fr gr : Nat × Nat} (hb : Below ((w.alloc (.cells cs t fr)).alloc (.cells ds u gr)).heap.size ((w.alloc (.cells cs t fr)).alloc (.cells ds u gr)) w2) :
    w2.heap[w.heap.size]? = some (.cells cs t fr) ∧ w2.heap[w.heap.size + 1]? = some (.cells ds u gr) ∧ Below w.heap.size w w2 := by
  obtain ⟨h1, h2⟩ := alloc_known hb
  obtain ⟨h3, h4⟩ := alloc_known h2
  exact ⟨h3, (show w2.heap[w.heap.size + 1]? = some (.cells ds u gr) by rw [← h1]; congr 1; exact (Array.size_push _).symm), h4⟩
theorem alloc2_below (w : World) (o o' : Obj) : Below w.heap.size w ((w.alloc o).alloc o') := ((Below.refl _ _).alloc (Nat.le_refl _) _).alloc (by simp) _
theorem list_eq {a b : ByteArray} (h : (a == b) = false) : ¬ a.toList = b.toList := by
  intro e
  rw [beq_toListBytes, e] at h
  simp at h
theorem list_eq' {a b : ByteArray} (h : (a == b) = true) : a.toList = b.toList := by
  rw [beq_toListBytes] at h
  simpa using h

theorem same_any (d : Nat) : ∀ (d' : Nat) (w : World) (v v' : Value) (t t' : Ty), Lies w d v t → Lies w d' v' t' → Calls Try.prog 21 #[v, v'] w fun e w' => e = .returned (.bool (sameT t t')) ∧ Below w.heap.size w w' := by
  induction d with
  | zero => intro d' w v v' t t' h; exact h.elim
  | succ d ih =>
  intro d' w v v' t t' h h'
  cases d' with
  | zero => exact h'.elim
  | succ d' =>
  obtain ⟨kd, p, nm, la, lr⟩ := t
  obtain ⟨kd', p', nm', la', lr'⟩ := t'
  obtain ⟨va, vr, rfl, ha, hr⟩ := h
  obtain ⟨va', vr', rfl, ha', hr'⟩ := h'
  cases e1 : (kd == kd')
  · have HE := Lib.hid (show sameT (.mk kd p nm la lr) (.mk kd' p' nm' la' lr') = false by simp only [sameT, e1, Bool.false_and])
    clear ih
    go_enter Try.func21, Try.ntmps21
    go_wp2_with fail
    go_ret
    exact ⟨by rw [HE.out]; rfl, alloc2_below _ _ _⟩
  cases e2 : (p == p')
  · have HE := Lib.hid (show sameT (.mk kd p nm la lr) (.mk kd' p' nm' la' lr') = false by simp only [sameT, e1, e2, Bool.false_and, Bool.and_false])
    have e2' := list_eq e2
    clear ih e2
    go_enter Try.func21, Try.ntmps21
    go_wp2_with fail
    go_ret
    exact ⟨by rw [HE.out]; rfl, alloc2_below _ _ _⟩
  cases e3 : (nm == nm')
  · have HE := Lib.hid (show sameT (.mk kd p nm la lr) (.mk kd' p' nm' la' lr') = false by simp only [sameT, e1, e2, e3, Bool.false_and, Bool.and_false])
    have e2' := list_eq' e2
    have e3' := list_eq e3
    clear ih e2 e3
    go_enter Try.func21, Try.ntmps21
    go_wp2_with fail
    go_ret
    exact ⟨by rw [HE.out]; rfl, alloc2_below _ _ _⟩
  have HE := Lib.hid (show sameT (.mk kd p nm la lr) (.mk kd' p' nm' la' lr') = (sameL la la' && sameL lr lr') by simp only [sameT, e1, e2, e3, Bool.true_and])
  have e2' := list_eq' e2
  have e3' := list_eq' e3
  clear e2 e3
  have HA := fun w' (hb : Below w.heap.size w w') => all_any d d' w' va va' la la' (ha.below hb) (ha'.below hb) (ih d')
  have HR := fun w' (hb : Below w.heap.size w w') => all_any d d' w' vr vr' lr lr' (hr.below hb) (hr'.below hb) (ih d')
  clear ih
  go_enter Try.func21, Try.ntmps21
  go_wp2_with (first | (go_at_call 45; refine (HA _ (alloc2_below _ _ _)).mono ?_; rintro e w2 ⟨rfl, hb2⟩; refine Hid.out ?_))
  refine Lib.hid ?_
  obtain ⟨hk, hk1, hb⟩ := alloc_known2 hb2
  have c4 : w2.cell? ⟨w.heap.size, 4, none⟩ = some vr := by simp [World.cell?, hk]
  have d4 : w2.cell? ⟨w.heap.size + 1, 4, none⟩ = some vr' := by simp [World.cell?, hk1]
  have HB := Lib.hid hb
  clear hb2 hk hk1 hb HA
  cases e4 : sameL la la'
  · rw [e4] at HE
    go_wp2_with fail
    go_ret
    exact ⟨by rw [HE.out]; rfl, HB.out⟩
  · rw [e4] at HE
    go_wp2_with (first | (go_at_call 45; refine (HR _ HB.out).mono ?_; rintro e w3 ⟨rfl, hb3⟩))
    go_ret
    exact ⟨by rw [HE.out]; rfl, HB.out.trans (hb3.mono HB.out.size)⟩
end Go.Proofs.Ytcelpmojhjnggaa
