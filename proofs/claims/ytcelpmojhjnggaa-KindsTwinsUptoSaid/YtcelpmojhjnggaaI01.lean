/- More parts than a statement goes through; two types that are one. -/
import Derived.Test.YtcelpmojhjnggaaI00
import Derived.Lib.QuietBelow
import Derived.Laws.StructEq
namespace Go.Proofs.Ytcelpmojhjnggaa
open Go Go.RowKit Go.Sort KindsP
set_option maxHeartbeats 1000000
set_option maxRecDepth 100000

theorem cntL_0 (l : List Ty) (m n : Int) (h0 : 0 ≤ n) (h1 : n ≤ m + 1) : cntL l m n ≤ m + 1 ∧ 0 ≤ cntL l m n := by
  cases l with
  | nil => rw [cntL]; exact ⟨h1, h0⟩
  | cons x xs =>
    rw [cntL]
    split
    · next h =>
      obtain ⟨g1, g2⟩ := cnt_le x (m - n) (by omega)
      obtain ⟨g3, g4⟩ := cntL_le xs m (n + cnt x (m - n)) (by omega) (by omega)
      omega
    · omega
def greatB (l : List Ty) : Bool := decide (400 < cntL l 400 0)
theorem great_any (d : Nat) (w : World) (v : Value) (l : List Ty) (h : RowOf (Lies w d) w v l) : Calls Try.prog 12 #[v] w fun e w' => e = .returned (.bool (greatB l)) ∧ Below w.heap.size w w' := by
  obtain ⟨a, c, rfl, hc, hcm, hf⟩ := h.form
  have HA := Lib.hid h
  have hll := Nat.le_trans hc hcm
  unfold maxLen at hll
  clear h
  go_enter Try.func12, Try.ntmps12
  go_wp2_with fail
  go_loopw [3, 4] (fun nv iv wr => ∃ (k : Nat) (n : Int), k ≤ l.length ∧ iv = .int .i64 k ∧ nv = .int .i64 n ∧ 0 ≤ n ∧ n ≤ 401 ∧ Below w.heap.size w wr ∧ Hid (cntL l 400 0 = cntL (l.drop k) 400 n)) (fun _ iv _ => l.length - (intOf iv).toNat)
  case atStart => exact ⟨0, 0, by omega, rfl, rfl, by omega, by omega, Below.refl _ _, rfl⟩
  case round =>
    obtain ⟨k, n, hk, rfl, rfl, hn1, hn2, hb, H⟩ := hrel
    have HB := Lib.hid hb
    clear hb
    by_cases hlt : k < l.length
    · obtain ⟨b, o, rfl⟩ := hf (by omega)
      obtain ⟨x0, x1, x2, x3, x4, hl, hf⟩ := HA.out.get k l[k] (by simp)
      have hl' := Lib.hid (Lies.below HB.out _ _ _ hl)
      obtain ⟨f0, f1, f2, f3, f4⟩ := hf.below HB.out
      clear hl hf
      by_cases hnm : n ≤ 400
      · have HC := Lib.hid (cnt_le l[k] (400 - n) (by omega))
        have HS := Lib.hid (cntL_at l k hlt 400 n hnm)
        go_wp2_with (first | (go_at_call 37; refine (count_any d _ _ l[k] _ hl'.out (by omega) (by omega)).mono ?_; rintro e w2 ⟨rfl, hb2⟩; have HB2 := Lib.hid hb2; clear hb2; obtain ⟨q0, q1⟩ := HC.out))
        exact ⟨⟨k + 1, n + cnt l[k] (400 - n), by omega, by go_num, by go_num, by omega, by omega, HB.out.trans (HB2.out.mono HB.out.size), by show _ = _; rw [H.out, HS.out]⟩, by simp [intOf]; omega⟩
      · have HE := Lib.hid (show greatB l = true by rw [greatB, H.out, cntL_over _ _ _ hnm]; simpa using hnm)
        clear H hl' f0 f1 f2 f3 f4
        go_wp2_with fail
        go_ret
        refine ⟨?_, HB.out⟩
        rw [HE.out]
        simp
    · have HE := Lib.hid (show greatB l = decide (400 < n) by rw [greatB, H.out, List.drop_eq_nil_of_le (by omega), cntL])
      clear H
      go_wp2_with fail
      go_ret
      refine ⟨?_, HB.out⟩
      rw [HE.out]
      rfl

mutual
/-- are two types one? -/
def sameT : Ty → Ty → Bool
  | .mk k p n la lr, .mk k' p' n' la' lr' => (k == k') && ((p == p') && ((n == n') && (sameL la la' && sameL lr lr')))
def sameL : List Ty → List Ty → Bool
  | [], [] => true
  | x :: xs, y :: ys => sameT x y && sameL xs ys
  | _, _ => false
end
theorem sameL_len : ∀ (l l' : List Ty), l.length ≠ l'.length → sameL l l' = false
  | [], [], h => absurd rfl h
  | x :: xs, y :: ys, h => by rw [sameL, sameL_len xs ys (by simpa using h), Bool.and_false]
  | [], _ :: _, _ => by simp [sameL]
  | _ :: _, [], _ => by simp [sameL]
theorem sameL_at (l l' : List Ty) (k : Nat) (h : k < l.length) (h' : k < l'.length) : sameL (l.drop k) (l'.drop k) = (sameT l[k] l'[k] && sameL (l.drop (k + 1)) (l'.drop (k + 1))) := by
  rw [List.drop_eq_getElem_cons h, List.drop_eq_getElem_cons h', sameL]

abbrev fSame : Value := .func (.func 21) #[] #[]
theorem all_any (d d' : Nat) (w : World) (v v' : Value) (l l' : List Ty) (h : RowOf (Lies w d) w v l) (h' : RowOf (Lies w d') w v' l')
    (ih : ∀ (w : World) (v v' : Value) (t t' : Ty), Lies w d v t → Lies w d' v' t' → Calls Try.prog 21 #[v, v'] w fun e w' => e = .returned (.bool (sameT t t')) ∧ Below w.heap.size w w') :
    Calls Try.prog 45 #[v, v', fSame] w fun e w' => e = .returned (.bool (sameL l l')) ∧ Below w.heap.size w w' := by
  obtain ⟨a, c, rfl, hc, hcm, hf⟩ := h.form
  obtain ⟨a', c', rfl, hc', hcm', hf'⟩ := h'.form
  have HA := Lib.hid h
  have HA' := Lib.hid h'
  have hll := Nat.le_trans hc hcm
  have hll' := Nat.le_trans hc' hcm'
  unfold maxLen at hll hll'
  clear h h'
  by_cases hlen : l.length = l'.length
  case neg =>
    have e0 : ((l.length : Int) != (l'.length : Int)) = true := by simp; omega
    have HE := Lib.hid (sameL_len l l' hlen)
    go_enter Try.func45, Try.ntmps45
    go_wp2_with fail
    go_ret
    exact ⟨by rw [HE.out]; rfl, Below.refl _ _⟩
  have e0 : ((l.length : Int) != (l'.length : Int)) = false := by simp; omega
  have HLEN := Lib.hid hlen
  clear hlen
  go_enter Try.func45, Try.ntmps45
  go_wp2_with fail
  go_loopw [15] (fun iv wr => ∃ k : Nat, k ≤ l.length ∧ iv = .int .i64 k ∧ Below w.heap.size w wr ∧ Hid (sameL l l' = sameL (l.drop k) (l'.drop k))) (fun iv _ => l.length - (intOf iv).toNat)
  case atStart => exact ⟨0, by omega, rfl, Below.refl _ _, rfl⟩
  case round =>
    obtain ⟨k, hk, rfl, hb, H⟩ := hrel
    have HB := Lib.hid hb
    clear hb
    by_cases hlt : k < l.length
    · have hlt' : k < l'.length := by have := HLEN.out; omega
      obtain ⟨b, o, rfl⟩ := hf (by omega)
      obtain ⟨b', o', rfl⟩ := hf' (by omega)
      obtain ⟨x0, x1, x2, x3, x4, hl, hf⟩ := HA.out.get k l[k] (by simp)
      obtain ⟨y0, y1, y2, y3, y4, hl', hf'⟩ := HA'.out.get k l'[k] (by simp)
      obtain ⟨f0, f1, f2, f3, f4⟩ := hf.below HB.out
      obtain ⟨g0, g1, g2, g3, g4⟩ := hf'.below HB.out
      have r0 := cell_regrown f0
      have r1 := cell_regrown f1
      have r2 := cell_regrown f2
      have r3 := cell_regrown f3
      have r4 := cell_regrown f4
      have s0 := cell_regrown g0
      have s1 := cell_regrown g1
      have s2 := cell_regrown g2
      have s3 := cell_regrown g3
      have s4 := cell_regrown g4
      have cX := fun d os => Calls.regrown_of (ih (grow (redrawn wr d) os) _ _ l[k] l'[k] (Lies.below (HB.out.trans ((below_regrown wr d os).mono HB.out.size)) _ _ _ hl) (Lies.below (HB.out.trans ((below_regrown wr d os).mono HB.out.size)) _ _ _ hl'))
      have HS := Lib.hid (sameL_at l l' k hlt hlt')
      clear hl hl' hf hf' f0 f1 f2 f3 f4 g0 g1 g2 g3 g4
      cases hsm : sameT l[k] l'[k]
      all_goals
        rw [hsm] at cX
        have HM := Lib.hid hsm
        clear hsm
        go_wp2_with (refine wp_region_quiet_below (by kernel_rfl) (by kernel_rfl) ?_; quiet_step (fail); quiet_step (fail); quiet_step (fail); quiet_step (fail); quiet_step (fail); quiet_step (fail); quiet_step (fail); quiet_step (fail); quiet_step (fail); quiet_step (exact cX _ _); quiet_step (fail); refine wpQuiet_nil ?_; intro _ hw'; obtain ⟨⟨dq, osq⟩, hw''⟩ := hw'; subst hw'')
      · go_wp2
        go_ret
        exact ⟨by rw [H.out, HS.out, HM.out]; rfl, HB.out.trans ((below_regrown wr dq osq).mono HB.out.size)⟩
      · go_wp2
        exact ⟨⟨k + 1, by omega, by go_num, HB.out.trans ((below_regrown wr dq osq).mono HB.out.size), by show _ = _; rw [H.out, HS.out, HM.out, Bool.true_and]⟩, by simp [intOf]; omega⟩
    · have HE := Lib.hid (show sameL l l' = true by rw [H.out, List.drop_eq_nil_of_le (by omega), List.drop_eq_nil_of_le (by have := HLEN.out; omega)]; simp [sameL])
      clear H
      go_wp2_with fail
      go_ret
      exact ⟨by rw [HE.out]; rfl, HB.out⟩
theorem alloc_known {w w2 : World} {cs : Array Value} {t : TypeId} {fr : Nat × Nat} (hb : Below (w.alloc (.cells cs t fr)).heap.size (w.alloc (.cells cs t fr)) w2) : w2.heap[w.heap.size]? = some (.cells cs t fr) ∧ Below w.heap.size w w2 := by
  have hs : (w.alloc (.cells cs t fr)).heap.size = w.heap.size + 1 := Array.size_push _
  refine ⟨?_, ?_⟩
  · rw [hb.block _ (by omega)]
    exact (show (w.heap.push _)[w.heap.size]? = _ from Array.getElem?_push_size)
  · have h1 : Below w.heap.size w (w.alloc (.cells cs t fr)) := (Below.refl _ _).alloc (Nat.le_refl _) _
    exact h1.trans ⟨hb.os, hb.tape, hb.output, hb.size, fun k hk => hb.block k (by omega)⟩
theorem alloc_known2 {w w2 : World} {cs ds : Array Value} {t u : TypeId} {fr gr : Nat × Nat} (hb : Below ((w.alloc (.cells cs t fr)).alloc (.cells ds u gr)).heap.size ((w.alloc (.cells cs t fr)).alloc (.cells ds u gr)) w2) :
    w2.heap[w.heap.size]? = some (.cells cs t fr) ∧ w2.heap[w.heap.size + 1]? = some (.cells ds u gr) ∧ Below w.heap.size w w2 := by
  obtain ⟨h1, h2⟩ := alloc_known hb
  obtain ⟨h3, h4⟩ := alloc_known h2
  exact ⟨h3, (show w2.heap[w.heap.size + 1]? = some (.cells ds u gr) by rw [← h1]; congr 1; exact (Array.size_push _).symm), h4⟩
theorem alloc2_below (w : World) (o o' : Obj) : Below w.heap.size w ((w.alloc o).alloc o') := ((Below.refl _ _).alloc (Nat.le_refl _) _).alloc (by simp) _
theorem list_eq {a b : ByteArray} (h : (a == b) = false) : ¬ a.toList = b.toList := by
  intro e
  rw [beq_toListBytes, e] at h
  simp at h
theorem list_eq' {a b : ByteArray} (h : (a == b) = true) : a.toList = b.toList := by
  rw [beq_toListBytes] at h
  simpa using h

theorem same_any (d : Nat) : ∀ (d' : Nat) (w : World) (v v' : Value) (t t' : Ty), Lies w d v t → Lies w d' v' t' → Calls Try.prog 21 #[v, v'] w fun e w' => e = .returned (.bool (sameT t t')) ∧ Below w.heap.size w w' := by
  induction d with
  | zero => intro d' w v v' t t' h; exact h.elim
  | succ d ih =>
  intro d' w v v' t t' h h'
  cases d' with
  | zero => exact h'.elim
  | succ d' =>
  obtain ⟨kd, p, nm, la, lr⟩ := t
  obtain ⟨kd', p', nm', la', lr'⟩ := t'
  obtain ⟨va, vr, rfl, ha, hr⟩ := h
  obtain ⟨va', vr', rfl, ha', hr'⟩ := h'
  cases e1 : (kd == kd')
  · have HE := Lib.hid (show sameT (.mk kd p nm la lr) (.mk kd' p' nm' la' lr') = false by simp only [sameT, e1, Bool.false_and])
    clear ih
    go_enter Try.func21, Try.ntmps21
    go_wp2_with fail
    go_ret
    exact ⟨by rw [HE.out]; rfl, alloc2_below _ _ _⟩
  cases e2 : (p == p')
  · have HE := Lib.hid (show sameT (.mk kd p nm la lr) (.mk kd' p' nm' la' lr') = false by simp only [sameT, e1, e2, Bool.false_and, Bool.and_false])
    have e2' := list_eq e2
    clear ih e2
    go_enter Try.func21, Try.ntmps21
    go_wp2_with fail
    go_ret
    exact ⟨by rw [HE.out]; rfl, alloc2_below _ _ _⟩
  cases e3 : (nm == nm')
  · have HE := Lib.hid (show sameT (.mk kd p nm la lr) (.mk kd' p' nm' la' lr') = false by simp only [sameT, e1, e2, e3, Bool.false_and, Bool.and_false])
    have e2' := list_eq' e2
    have e3' := list_eq e3
    clear ih e2 e3
    go_enter Try.func21, Try.ntmps21
    go_wp2_with fail
    go_ret
    exact ⟨by rw [HE.out]; rfl, alloc2_below _ _ _⟩
  have HE := Lib.hid (show sameT (.mk kd p nm la lr) (.mk kd' p' nm' la' lr') = (sameL la la' && sameL lr lr') by simp only [sameT, e1, e2, e3, Bool.true_and])
  have e2' := list_eq' e2
  have e3' := list_eq' e3
  clear e2 e3
  have HA := fun w' (hb : Below w.heap.size w w') => all_any d d' w' va va' la la' (ha.below hb) (ha'.below hb) (ih d')
  have HR := fun w' (hb : Below w.heap.size w w') => all_any d d' w' vr vr' lr lr' (hr.below hb) (hr'.below hb) (ih d')
  clear ih
  go_enter Try.func21, Try.ntmps21
  go_wp2_with (first | (go_at_call 45; refine (HA _ (alloc2_below _ _ _)).mono ?_; rintro e w2 ⟨rfl, hb2⟩; refine Hid.out ?_))
  refine Lib.hid ?_
  obtain ⟨hk, hk1, hb⟩ := alloc_known2 hb2
  have c4 : w2.cell? ⟨w.heap.size, 4, none⟩ = some vr := by simp [World.cell?, hk]
  have d4 : w2.cell? ⟨w.heap.size + 1, 4, none⟩ = some vr' := by simp [World.cell?, hk1]
  have HB := Lib.hid hb
  clear hb2 hk hk1 hb HA
  cases e4 : sameL la la'
  · rw [e4] at HE
    go_wp2_with fail
    go_ret
    exact ⟨by rw [HE.out]; rfl, HB.out⟩
  · rw [e4] at HE
    go_wp2_with (first | (go_at_call 45; refine (HR _ HB.out).mono ?_; rintro e w3 ⟨rfl, hb3⟩))
    go_ret
    exact ⟨by rw [HE.out]; rfl, HB.out.trans (hb3.mono HB.out.size)⟩
end Go.Proofs.Ytcelpmojhjnggaa

/- Two types that are one: the reference's. -/
namespace Go.Proofs.Ytcelpmojhjnggaa
open Go Go.RowKit Go.Sort KindsP
set_option maxHeartbeats 1000000
set_option maxRecDepth 100000

theorem All_any (d d' : Nat) (w : World) (v v' : Value) (l l' : List Ty) (h : RowOf (Lies w d) w v l) (h' : RowOf (Lies w d') w v' l')
    (ih : ∀ (w : World) (v v' : Value) (t t' : Ty), Lies w d v t → Lies w d' v' t' → Calls Try.prog 19 #[v, v'] w fun e w' => e = .returned (.bool (sameT t t')) ∧ Below w.heap.size w w') :
    Calls Try.prog 16 #[v, v'] w fun e w' => e = .returned (.bool (sameL l l')) ∧ Below w.heap.size w w' := by
  obtain ⟨a, c, rfl, hc, hcm, hf⟩ := h.form
  obtain ⟨a', c', rfl, hc', hcm', hf'⟩ := h'.form
  have HA := Lib.hid h
  have HA' := Lib.hid h'
  have hll := Nat.le_trans hc hcm
  have hll' := Nat.le_trans hc' hcm'
  unfold maxLen at hll hll'
  clear h h'
  by_cases hlen : l.length = l'.length
  case neg =>
    have e0 : ((l.length : Int) != (l'.length : Int)) = true := by simp; omega
    have HE := Lib.hid (sameL_len l l' hlen)
    go_enter Try.func16, Try.ntmps16
    go_wp2_with fail
    go_ret
    exact ⟨by rw [HE.out]; rfl, Below.refl _ _⟩
  have e0 : ((l.length : Int) != (l'.length : Int)) = false := by simp; omega
  have HLEN := Lib.hid hlen
  clear hlen
  go_enter Try.func16, Try.ntmps16
  go_wp2_with fail
  go_loopw [5] (fun iv wr => ∃ k : Nat, k ≤ l.length ∧ iv = .int .i64 k ∧ Below w.heap.size w wr ∧ Hid (sameL l l' = sameL (l.drop k) (l'.drop k))) (fun iv _ => l.length - (intOf iv).toNat)
  case atStart => exact ⟨0, by omega, rfl, Below.refl _ _, rfl⟩
  case round =>
    obtain ⟨k, hk, rfl, hb, H⟩ := hrel
    have HB := Lib.hid hb
    clear hb
    by_cases hlt : k < l.length
    · have hlt' : k < l'.length := by have := HLEN.out; omega
      obtain ⟨b, o, rfl⟩ := hf (by omega)
      obtain ⟨b', o', rfl⟩ := hf' (by omega)
      obtain ⟨x0, x1, x2, x3, x4, hl, hf⟩ := HA.out.get k l[k] (by simp)
      obtain ⟨y0, y1, y2, y3, y4, hl', hf'⟩ := HA'.out.get k l'[k] (by simp)
      obtain ⟨f0, f1, f2, f3, f4⟩ := hf.below HB.out
      obtain ⟨g0, g1, g2, g3, g4⟩ := hf'.below HB.out
      have r0 := cell_regrown f0
      have r1 := cell_regrown f1
      have r2 := cell_regrown f2
      have r3 := cell_regrown f3
      have r4 := cell_regrown f4
      have s0 := cell_regrown g0
      have s1 := cell_regrown g1
      have s2 := cell_regrown g2
      have s3 := cell_regrown g3
      have s4 := cell_regrown g4
      have cX := fun d os => Calls.regrown_of (ih (grow (redrawn wr d) os) _ _ l[k] l'[k] (Lies.below (HB.out.trans ((below_regrown wr d os).mono HB.out.size)) _ _ _ hl) (Lies.below (HB.out.trans ((below_regrown wr d os).mono HB.out.size)) _ _ _ hl'))
      have HS := Lib.hid (sameL_at l l' k hlt hlt')
      clear hl hl' hf hf' f0 f1 f2 f3 f4 g0 g1 g2 g3 g4
      cases hsm : sameT l[k] l'[k]
      all_goals
        rw [hsm] at cX
        have HM := Lib.hid hsm
        clear hsm
        go_wp2_with (refine wp_region_quiet_below (by kernel_rfl) (by kernel_rfl) ?_; quiet_step (fail); quiet_step (fail); quiet_step (fail); quiet_step (fail); quiet_step (fail); quiet_step (fail); quiet_step (fail); quiet_step (fail); quiet_step (exact cX _ _); quiet_step (fail); refine wpQuiet_nil ?_; intro _ hw'; obtain ⟨⟨dq, osq⟩, hw''⟩ := hw'; subst hw'')
      · go_wp2
        go_ret
        exact ⟨by rw [H.out, HS.out, HM.out]; rfl, HB.out.trans ((below_regrown wr dq osq).mono HB.out.size)⟩
      · go_wp2
        exact ⟨⟨k + 1, by omega, by go_num, HB.out.trans ((below_regrown wr dq osq).mono HB.out.size), by show _ = _; rw [H.out, HS.out, HM.out, Bool.true_and]⟩, by simp [intOf]; omega⟩
    · have HE := Lib.hid (show sameL l l' = true by rw [H.out, List.drop_eq_nil_of_le (by omega), List.drop_eq_nil_of_le (by have := HLEN.out; omega)]; simp [sameL])
      clear H
      go_wp2_with fail
      go_ret
      exact ⟨by rw [HE.out]; rfl, HB.out⟩
theorem Same_any (d : Nat) : ∀ (d' : Nat) (w : World) (v v' : Value) (t t' : Ty), Lies w d v t → Lies w d' v' t' → Calls Try.prog 19 #[v, v'] w fun e w' => e = .returned (.bool (sameT t t')) ∧ Below w.heap.size w w' := by
  induction d with
  | zero => intro d' w v v' t t' h; exact h.elim
  | succ d ih =>
  intro d' w v v' t t' h h'
  cases d' with
  | zero => exact h'.elim
  | succ d' =>
  obtain ⟨kd, p, nm, la, lr⟩ := t
  obtain ⟨kd', p', nm', la', lr'⟩ := t'
  obtain ⟨va, vr, rfl, ha, hr⟩ := h
  obtain ⟨va', vr', rfl, ha', hr'⟩ := h'
  cases e1 : (kd == kd')
  · have HE := Lib.hid (show sameT (.mk kd p nm la lr) (.mk kd' p' nm' la' lr') = false by simp only [sameT, e1, Bool.false_and])
    clear ih
    go_enter Try.func19, Try.ntmps19
    go_wp2_with fail
    go_ret
    exact ⟨by rw [HE.out]; rfl, alloc2_below _ _ _⟩
  cases e2 : (p == p')
  · have HE := Lib.hid (show sameT (.mk kd p nm la lr) (.mk kd' p' nm' la' lr') = false by simp only [sameT, e1, e2, Bool.false_and, Bool.and_false])
    have e2' := list_eq e2
    clear ih e2
    go_enter Try.func19, Try.ntmps19
    go_wp2_with fail
    go_ret
    exact ⟨by rw [HE.out]; rfl, alloc2_below _ _ _⟩
  cases e3 : (nm == nm')
  · have HE := Lib.hid (show sameT (.mk kd p nm la lr) (.mk kd' p' nm' la' lr') = false by simp only [sameT, e1, e2, e3, Bool.false_and, Bool.and_false])
    have e2' := list_eq' e2
    have e3' := list_eq e3
    clear ih e2 e3
    go_enter Try.func19, Try.ntmps19
    go_wp2_with fail
    go_ret
    exact ⟨by rw [HE.out]; rfl, alloc2_below _ _ _⟩
  have HE := Lib.hid (show sameT (.mk kd p nm la lr) (.mk kd' p' nm' la' lr') = (sameL la la' && sameL lr lr') by simp only [sameT, e1, e2, e3, Bool.true_and])
  have e2' := list_eq' e2
  have e3' := list_eq' e3
  clear e2 e3
  have HA := fun w' (hb : Below w.heap.size w w') => All_any d d' w' va va' la la' (ha.below hb) (ha'.below hb) (ih d')
  have HR := fun w' (hb : Below w.heap.size w w') => All_any d d' w' vr vr' lr lr' (hr.below hb) (hr'.below hb) (ih d')
  clear ih
  go_enter Try.func19, Try.ntmps19
  go_wp2_with (first | (go_at_call 16; refine (HA _ (alloc2_below _ _ _)).mono ?_; rintro e w2 ⟨rfl, hb2⟩; refine Hid.out ?_))
  refine Lib.hid ?_
  obtain ⟨hk, hk1, hb⟩ := alloc_known2 hb2
  have c4 : w2.cell? ⟨w.heap.size, 4, none⟩ = some vr := by simp [World.cell?, hk]
  have d4 : w2.cell? ⟨w.heap.size + 1, 4, none⟩ = some vr' := by simp [World.cell?, hk1]
  have HB := Lib.hid hb
  clear hb2 hk hk1 hb HA
  cases e4 : sameL la la'
  · rw [e4] at HE
    go_wp2_with fail
    go_ret
    exact ⟨by rw [HE.out]; rfl, HB.out⟩
  · rw [e4] at HE
    go_wp2_with (first | (go_at_call 16; refine (HR _ HB.out).mono ?_; rintro e w3 ⟨rfl, hb3⟩))
    go_ret
    exact ⟨by rw [HE.out]; rfl, HB.out.trans (hb3.mono HB.out.size)⟩
end Go.Proofs.Ytcelpmojhjnggaa
