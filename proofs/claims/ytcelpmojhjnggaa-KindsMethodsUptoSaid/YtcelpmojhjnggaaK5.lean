/- A type as text: the reference's. -/
import Derived.Test.YtcelpmojhjnggaaK4
namespace Go.Proofs.Ytcelpmojhjnggaa
open Go Go.RowKit Go.Sort KindsP
set_option maxHeartbeats 1000000
set_option maxRecDepth 100000

theorem ba_assoc (a b c : ByteArray) : a ++ b ++ c = a ++ (b ++ c) := by apply ByteArray.ext; simp
theorem join_nil : joinB [] = ⟨#[]⟩ := rfl
theorem lib_join_snoc (y : List UInt8) (sep : List UInt8) : ∀ l : List (List UInt8), Lib.join (l ++ [y]) sep = if l = [] then y else Lib.join l sep ++ (sep ++ y)
  | [] => by simp [Lib.join]
  | [x] => by simp [Lib.join, List.intercalate]
  | x :: x' :: l => by
    have := lib_join_snoc y sep (x' :: l)
    rw [if_neg (by simp)] at this ⊢
    unfold Lib.join at this ⊢
    rw [List.cons_append, List.cons_append, List.intercalate_cons_cons, ← List.cons_append, this, List.intercalate_cons_cons]
    simp
theorem joinB_snoc (y : ByteArray) (l : List ByteArray) : joinB (l ++ [y]) = if l = [] then y else joinB l ++ (⟨#[44, 32]⟩ ++ y) := by
  unfold joinB
  rw [List.map_append, List.map_singleton, lib_join_snoc]
  cases l with
  | nil => simp
  | cons x xs => rw [if_neg (by simp), if_neg (by simp)]; apply ByteArray.ext; simp
theorem join_next (l : List Ty) (k : Nat) (h : k < l.length) : joinB ((l.take (k + 1)).map textT) = if k = 0 then joinB ((l.take k).map textT) ++ textT l[k] else joinB ((l.take k).map textT) ++ (⟨#[44, 32]⟩ ++ textT l[k]) := by
  rw [List.take_add_one, List.getElem?_eq_getElem h, List.map_append]
  show joinB (_ ++ [textT l[k]]) = _
  rw [joinB_snoc]
  by_cases h0 : k = 0
  · subst h0
    rw [if_pos (by simp), if_pos rfl]
    show _ = joinB [] ++ _
    rw [join_nil]
    apply ByteArray.ext
    simp
  · rw [if_neg (by cases l with | nil => simp at h | cons x xs => cases k with | zero => exact absurd rfl h0 | succ k => simp), if_neg h0]
theorem bulk_take (l : List Ty) : ∀ k, bulkL (l.take k) ≤ bulkL l := by
  induction l with
  | nil => intro k; simp
  | cons x xs ih =>
    intro k
    cases k with
    | zero => rw [List.take_zero, bulkL]; omega
    | succ k => rw [List.take_succ_cons, bulkL, bulkL]; have := ih k; omega
theorem joinB_le (l : List Ty) (k M : Nat) (h : bulkL l ≤ M) : (joinB ((l.take k).map textT)).size ≤ M := by
  have h1 := textL_le (l.take k)
  have h2 := bulk_take l k
  rw [textL_map] at h1
  unfold joinB
  rw [size_mk]
  exact join2_le _ _ (by omega)

theorem Text_any (d : Nat) : ∀ (w : World) (v : Value) (t : Ty), Lies w d v t → bulkT t ≤ 1000000000 → Calls Try.prog 23 #[v] w fun e w' => e = .returned (.string (textT t)) ∧ Below w.heap.size w w' := by
  induction d with
  | zero => intro w v t h; exact h.elim
  | succ d ih =>
  intro w v t h hbt
  obtain ⟨kd, p, nm, la, lr⟩ := t
  obtain ⟨va, vr, rfl, ha, hr⟩ := h
  have hbt' := hbt
  rw [bulkT] at hbt'
  have hpz : p.size ≤ 1000000000 := by omega
  have hnz : nm.size ≤ 1000000000 := by omega
  have hbla : bulkL la ≤ 1000000000 := by omega
  have hblr : bulkL lr ≤ 1000000000 := by omega
  obtain ⟨aa, ca, rfl, hca, hcm, haf⟩ := ha.form
  obtain ⟨ar, cr, rfl, hcr, hcmr, hrf⟩ := hr.form
  have HA := Lib.hid ha
  have HR := Lib.hid hr
  clear ha hr hbt hbt'
  have plain : ∀ (X : ByteArray), X = textT (.mk kd p nm la lr) → ∀ w', Below w.heap.size w w' → (Ending.returned (.string X) = Ending.returned (.string (textT (.mk kd p nm la lr)))) ∧ Below w.heap.size w w' := fun X h w' hb => ⟨by rw [h], hb⟩
  by_cases k0 : kd = 0 ∨ kd = 1 ∨ kd = 2 ∨ kd = 3 ∨ kd = 4 ∨ kd = 5 ∨ kd = 8 ∨ kd = 9
  · rcases k0 with rfl | rfl | rfl | rfl | rfl | rfl | rfl | rfl
    all_goals
      have HT := Lib.hid plain
      clear ih plain HA HR haf hrf
      go_enter Try.func23, Try.ntmps23
      go_wp2_with fail
      go_ret
      exact HT.out _ (by rw [textT]; rfl) _ ((Below.refl _ _).alloc (Nat.le_refl _) _)
  by_cases k6 : kd = 6
  · subst k6
    by_cases hl0 : 0 < la.length
    · obtain ⟨b, o, rfl⟩ := haf hl0
      obtain ⟨x0, x1, x2, x3, x4, hl, hf⟩ := HA.out.get 0 la[0] (by simp [hl0])
      rw [Nat.zero_mul, Nat.add_zero] at hf
      have hgb := bulk_get la 0 hl0
      have HX := Lib.hid (show (⟨#[91, 93]⟩ : ByteArray) ++ textT la[0] = textT (.mk 6 p nm la lr) by rw [← (head_at la hl0).1, textT]; rfl)
      have hz := text_le la[0]
      have e0 : ((la.length : Int) == 0) = false := by rw [beq_eq_false_iff_ne]; omega
      have hla : (0 : Int) < la.length := by omega
      have hsz : (textT la[0]).size ≤ 1000000000 := by omega
      have hX := Lib.hid (show bulkT la[0] ≤ 1000000000 by omega)
      have HL := Lib.hid (fun w' (hb : Below w.heap.size w w') => Lies.below hb _ _ _ hl)
      have HF := Lib.hid (hf.below ((Below.refl w.heap.size w).alloc (Nat.le_refl _) (.cells #[.int .i64 6, .string p, .string nm, .slice (some ⟨b, o, none⟩) la.length ca, .slice ar lr.length cr] 31)))
      obtain ⟨f0, f1, f2, f3, f4⟩ := HF.out
      clear hl hf hz hgb HF
      have HT := Lib.hid plain
      clear plain HR hrf
      go_enter Try.func23, Try.ntmps23
      go_wp2_with (first | (go_at_call 23; refine (ih _ _ la[0] (HL.out _ ((Below.refl _ _).alloc (Nat.le_refl _) _)) hX.out).mono ?_; rintro e w2 ⟨rfl, hb2⟩; obtain ⟨-, hb3⟩ := alloc_known hb2))
      go_ret
      exact HT.out _ HX.out _ hb3
    · have e0 : ((la.length : Int) == 0) = true := by rw [beq_iff_eq]; omega
      have HX := Lib.hid (show (⟨#[91, 93]⟩ : ByteArray) = textT (.mk 6 p nm la lr) by
        rw [textT]
        have : la = [] := List.length_eq_zero_iff.1 (by omega)
        subst this
        show _ = _ ++ headT []
        rw [headT, ba_nil])
      have HT := Lib.hid plain
      clear ih plain HA HR haf hrf
      go_enter Try.func23, Try.ntmps23
      go_wp2_with fail
      go_ret
      exact HT.out _ HX.out _ ((Below.refl _ _).alloc (Nat.le_refl _) _)
  by_cases k7 : kd = 7
  · subst k7
    have hlla := Nat.le_trans hca hcm
    unfold maxLen at hlla
    have HT := Lib.hid plain
    have HIH := Lib.hid ih
    clear plain ih
    obtain ⟨W1, hQ⟩ : ∃ W1, W1 = w.alloc (.cells #[.int .i64 7, .string p, .string nm, .slice aa la.length ca, .slice ar lr.length cr] 31) := ⟨_, rfl⟩
    have HQ := Lib.hid hQ
    have HB1 := Lib.hid (show W1.heap[w.heap.size]? = some (.cells #[.int .i64 7, .string p, .string nm, .slice aa la.length ca, .slice ar lr.length cr] 31) by rw [hQ]; exact heap_alloc_new w _)
    have HW1 := Lib.hid (show Below w.heap.size w W1 by rw [hQ]; exact (Below.refl _ _).alloc (Nat.le_refl _) _)
    have HS1 := Lib.hid (show w.heap.size + 1 ≤ W1.heap.size by rw [hQ]; simp)
    clear hQ
    go_enter Try.func23, Try.ntmps23
    go_wp2_with fail
    go_loopw [3, 4] (fun sv iv wr => ∃ (k : Nat) (S : ByteArray), k ≤ la.length ∧ iv = .int .i64 k ∧ sv = .string S ∧ S.size ≤ 1000000005 ∧ Below (w.heap.size + 1) W1 wr ∧ Hid (S = ⟨#[102, 117, 110, 99, 40]⟩ ++ joinB ((la.take k).map textT))) (fun _ iv _ => la.length - (intOf iv).toNat)
    case atStart => exact ⟨0, ⟨#[102, 117, 110, 99, 40]⟩, by omega, rfl, rfl, by decide, by rw [HQ.out]; exact Below.refl _ _, by show _ = _ ++ joinB []; rw [join_nil, ba_nil]⟩
    case round =>
      obtain ⟨k, S, hk, rfl, rfl, hS, hb, H⟩ := hrel
      have hbox : wr.heap[w.heap.size]? = _ := (hb.block w.heap.size (by omega)).trans HB1.out
      have c3 : wr.cell? ⟨w.heap.size, 3, none⟩ = some (.slice aa la.length ca) := by simp [World.cell?, hbox]
      have c4 : wr.cell? ⟨w.heap.size, 4, none⟩ = some (.slice ar lr.length cr) := by simp [World.cell?, hbox]
      have HB := Lib.hid hb
      have HW := Lib.hid (HW1.out.trans (hb.mono (by omega)))
      clear hb hbox
      by_cases hlt : k < la.length
      · obtain ⟨b, o, rfl⟩ := haf (by omega)
        obtain ⟨x0, x1, x2, x3, x4, hl, hf⟩ := HA.out.get k la[k] (by simp)
        have hl' := Lib.hid (Lies.below HW.out _ _ _ hl)
        obtain ⟨f0, f1, f2, f3, f4⟩ := hf.below HW.out
        have hgb := bulk_get la k hlt
        have hz := text_le la[k]
        have hX := Lib.hid (show bulkT la[k] ≤ 1000000000 by omega)
        have hsz : (textT la[k]).size ≤ 1000000000 := by omega
        have hnx := joinB_le la (k + 1) 1000000000 hbla
        have HN := Lib.hid (join_next la k hlt)
        clear hl hf hz hgb
        by_cases hk0 : k = 0
        · subst hk0
          rw [if_pos rfl] at HN
          have hnx' := joinB_le la 1 1000000000 hbla
          simp only [Nat.zero_mul, Nat.add_zero] at f0 f1 f2 f3 f4
          have HSS := Lib.hid (show S ++ textT la[0] = ⟨#[102, 117, 110, 99, 40]⟩ ++ joinB ((la.take 1).map textT) by rw [H.out, ba_assoc, HN.out])
          go_wp2_with (first | (go_at_call 23; refine (HIH.out _ _ la[0] hl'.out hX.out).mono ?_; rintro e w2 ⟨rfl, hb2⟩; have HB2 := Lib.hid hb2; clear hb2))
          exact ⟨⟨1, S ++ textT la[0], by omega, rfl, rfl, by rw [HSS.out, ByteArray.size_append]; have : (⟨#[102, 117, 110, 99, 40]⟩ : ByteArray).size = 5 := rfl; omega, HB.out.trans (HB2.out.mono (Nat.le_trans HS1.out HB.out.size)), HSS⟩, by simp [intOf]; omega⟩
        · rw [if_neg hk0] at HN
          have hkp : (0 : Int) < k := by omega
          have HSS := Lib.hid (show S ++ ⟨#[44, 32]⟩ ++ textT la[k] = ⟨#[102, 117, 110, 99, 40]⟩ ++ joinB ((la.take (k + 1)).map textT) by rw [HN.out, H.out]; simp only [ba_assoc])
          go_wp2_with (first | (go_at_call 23; refine (HIH.out _ _ la[k] hl'.out hX.out).mono ?_; rintro e w2 ⟨rfl, hb2⟩; have HB2 := Lib.hid hb2; clear hb2))
          exact ⟨⟨k + 1, S ++ ⟨#[44, 32]⟩ ++ textT la[k], by omega, by go_num, rfl, by rw [HSS.out, ByteArray.size_append]; have : (⟨#[102, 117, 110, 99, 40]⟩ : ByteArray).size = 5 := rfl; omega, HB.out.trans (HB2.out.mono (Nat.le_trans HS1.out HB.out.size)), HSS⟩, by simp [intOf]; omega⟩
      · have hkl : k = la.length := by omega
        have HS := Lib.hid (show S = ⟨#[102, 117, 110, 99, 40]⟩ ++ joinB (textL la) by rw [H.out, hkl, List.take_length, textL_map])
        clear H hkl
        by_cases hl0 : 0 < lr.length
        · obtain ⟨b, o, rfl⟩ := hrf hl0
          obtain ⟨x0, x1, x2, x3, x4, hl, hf⟩ := HR.out.get 0 lr[0] (by simp [hl0])
          rw [Nat.zero_mul, Nat.add_zero] at hf
          have hgb := bulk_get lr 0 hl0
          have HX := Lib.hid (show S ++ ⟨#[41, 32]⟩ ++ textT lr[0] = textT (.mk 7 p nm la lr) by
            rw [HS.out, textT]
            show _ = _ ++ resT lr
            rw [(head_at lr hl0).2]
            rw [show (⟨#[41, 32]⟩ : ByteArray) = ⟨#[41]⟩ ++ ⟨#[32]⟩ from rfl]
            simp only [ba_assoc])
          have hz := text_le lr[0]
          have hlr : (0 : Int) < lr.length := by omega
          have hsz : (textT lr[0]).size ≤ 1000000000 := by omega
          have hX := Lib.hid (show bulkT lr[0] ≤ 1000000000 by omega)
          have HL := Lib.hid (Lies.below HW.out _ _ _ hl)
          obtain ⟨f0, f1, f2, f3, f4⟩ := hf.below HW.out
          clear hl hf hz hgb
          go_wp2_with (first | (go_at_call 23; refine (HIH.out _ _ lr[0] HL.out hX.out).mono ?_; rintro e w4 ⟨rfl, hb4⟩))
          go_ret
          exact HT.out _ HX.out _ (HW.out.trans (hb4.mono HW.out.size))
        · have hlr : ¬ (0 : Int) < lr.length := by omega
          have HX := Lib.hid (show S ++ ⟨#[41]⟩ = textT (.mk 7 p nm la lr) by
            rw [HS.out, textT]
            have : lr = [] := List.length_eq_zero_iff.1 (by omega)
            subst this
            show _ = _ ++ resT []
            rw [resT, ba_nil])
          go_wp2_with fail
          go_ret
          exact HT.out _ HX.out _ HW.out
  · have n0 := beq_no (k := kd) (c := 0) (fun h => k0 (by simp [h]))
    have n1 := beq_no (k := kd) (c := 1) (fun h => k0 (by simp [h]))
    have n2 := beq_no (k := kd) (c := 2) (fun h => k0 (by simp [h]))
    have n3 := beq_no (k := kd) (c := 3) (fun h => k0 (by simp [h]))
    have n4 := beq_no (k := kd) (c := 4) (fun h => k0 (by simp [h]))
    have n5 := beq_no (k := kd) (c := 5) (fun h => k0 (by simp [h]))
    have n8 := beq_no (k := kd) (c := 8) (fun h => k0 (by simp [h]))
    have n9 := beq_no (k := kd) (c := 9) (fun h => k0 (by simp [h]))
    have n6 := beq_no k6
    have n7 := beq_no k7
    have HX := Lib.hid (show (⟨#[]⟩ : ByteArray) = textT (.mk kd p nm la lr) by
      simp only [not_or] at k0
      obtain ⟨g0, g1, g2, g3, g4, g5, g8, g9⟩ := k0
      rw [textT, if_neg g0, if_neg g1, if_neg g2, if_neg g3, if_neg g4, if_neg g5, if_neg g8, if_neg g9, if_neg k6, if_neg k7])
    have HT := Lib.hid plain
    clear ih plain HA HR haf hrf k0 k6 k7
    go_enter Try.func23, Try.ntmps23
    go_wp2_with fail
    go_ret
    exact HT.out _ HX.out _ ((Below.refl _ _).alloc (Nat.le_refl _) _)
end Go.Proofs.Ytcelpmojhjnggaa
