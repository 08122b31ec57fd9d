/- A type as text: the reference's. -/
import Derived.Test.YtcelpmojhjnggaaI03
import Derived.Deep.RegionWith
namespace Go.Proofs.Ytcelpmojhjnggaa
open Go Go.RowKit Go.Sort KindsP
set_option maxHeartbeats 1000000
set_option maxRecDepth 100000

theorem ba_assoc (a b c : ByteArray) : a ++ b ++ c = a ++ (b ++ c) := by apply ByteArray.ext; simp
theorem join_nil : joinB [] = ⟨#[]⟩ := rfl
theorem lib_join_snoc (y : List UInt8) (sep : List UInt8) : ∀ l : List (List UInt8), Lib.join (l ++ [y]) sep = if l = [] then y else Lib.join l sep ++ (sep ++ y)
  | [] => by simp [Lib.join]
  | [x] => by simp [Lib.join, List.intercalate]
  | x :: x' :: l => by
    have := lib_join_snoc y sep (x' :: l)
    rw [if_neg (by simp)] at this ⊢
    unfold Lib.join at this ⊢
    rw [List.cons_append, List.cons_append, List.intercalate_cons_cons, ← List.cons_append, this, List.intercalate_cons_cons]
    simp
theorem joinB_snoc (y : ByteArray) (l : List ByteArray) : joinB (l ++ [y]) = if l = [] then y else joinB l ++ (⟨#[44, 32]⟩ ++ y) := by
  unfold joinB
  rw [List.map_append, List.map_singleton, lib_join_snoc]
  cases l with
  | nil => simp
  | cons x xs => rw [if_neg (by simp), if_neg (by simp)]; apply ByteArray.ext; simp
theorem join_next (l : List Ty) (k : Nat) (h : k < l.length) : joinB ((l.take (k + 1)).map textT) = if k = 0 then joinB ((l.take k).map textT) ++ textT l[k] else joinB ((l.take k).map textT) ++ (⟨#[44, 32]⟩ ++ textT l[k]) := by
  rw [List.take_add_one, List.getElem?_eq_getElem h, List.map_append]
  show joinB (_ ++ [textT l[k]]) = _
  rw [joinB_snoc]
  by_cases h0 : k = 0
  · subst h0
    rw [if_pos (by simp), if_pos rfl]
    show _ = joinB [] ++ _
    rw [join_nil]
    apply ByteArray.ext
    simp
  · rw [if_neg (by cases l with | nil => simp at h | cons x xs => cases k with | zero => exact absurd rfl h0 | succ k => simp), if_neg h0]
theorem bulk_take (l : List Ty) : ∀ k, bulkL (l.take k) ≤ bulkL l := by
  induction l with
  | nil => intro k; simp
  | cons x xs ih =>
    intro k
    cases k with
    | zero => rw [List.take_zero, bulkL]; omega
    | succ k => rw [List.take_succ_cons, bulkL, bulkL]; have := ih k; omega
theorem joinB_le (l : List Ty) (k M : Nat) (h : bulkL l ≤ M) : (joinB ((l.take k).map textT)).size ≤ M := by
  have h1 := textL_le (l.take k)
  have h2 := bulk_take l k
  rw [textL_map] at h1
  unfold joinB
  rw [size_mk]
  exact join2_le _ _ (by omega)

theorem Text_any (d : Nat) : ∀ (w : World) (v : Value) (t : Ty), Lies w d v t → bulkT t ≤ 1000000000 → Calls Try.prog 23 #[v] w fun e w' => e = .returned (.string (textT t)) ∧ Below w.heap.size w w' := by
  induction d with
  | zero => intro w v t h; exact h.elim
  | succ d ih =>
  intro w v t h hbt
  obtain ⟨kd, p, nm, la, lr⟩ := t
  obtain ⟨va, vr, rfl, ha, hr⟩ := h
  have hbt' := hbt
  rw [bulkT] at hbt'
  have hpz : p.size ≤ 1000000000 := by omega
  have hnz : nm.size ≤ 1000000000 := by omega
  have hbla : bulkL la ≤ 1000000000 := by omega
  have hblr : bulkL lr ≤ 1000000000 := by omega
  obtain ⟨aa, ca, rfl, hca, hcm, haf⟩ := ha.form
  obtain ⟨ar, cr, rfl, hcr, hcmr, hrf⟩ := hr.form
  have HA := Lib.hid ha
  have HR := Lib.hid hr
  clear ha hr hbt hbt'
  have plain : ∀ (X : ByteArray), X = textT (.mk kd p nm la lr) → ∀ w', Below w.heap.size w w' → (Ending.returned (.string X) = Ending.returned (.string (textT (.mk kd p nm la lr)))) ∧ Below w.heap.size w w' := fun X h w' hb => ⟨by rw [h], hb⟩
  by_cases k0 : kd = 0 ∨ kd = 1 ∨ kd = 2 ∨ kd = 3 ∨ kd = 4 ∨ kd = 5 ∨ kd = 8 ∨ kd = 9
  · rcases k0 with rfl | rfl | rfl | rfl | rfl | rfl | rfl | rfl
    all_goals
      have HT := Lib.hid plain
      clear ih plain HA HR haf hrf
      go_enter Try.func23, Try.ntmps23
      go_wp2_with fail
      go_ret
      exact HT.out _ (by rw [textT]; rfl) _ ((Below.refl _ _).alloc (Nat.le_refl _) _)
  by_cases k6 : kd = 6
  · subst k6
    by_cases hl0 : 0 < la.length
    · obtain ⟨b, o, rfl⟩ := haf hl0
      obtain ⟨x0, x1, x2, x3, x4, hl, hf⟩ := HA.out.get 0 la[0] (by simp [hl0])
      rw [Nat.zero_mul, Nat.add_zero] at hf
      have hgb := bulk_get la 0 hl0
      have HX := Lib.hid (show (⟨#[91, 93]⟩ : ByteArray) ++ textT la[0] = textT (.mk 6 p nm la lr) by rw [← (head_at la hl0).1, textT]; rfl)
      have hz := text_le la[0]
      have e0 : ((la.length : Int) == 0) = false := by rw [beq_eq_false_iff_ne]; omega
      have hla : (0 : Int) < la.length := by omega
      have hsz : (textT la[0]).size ≤ 1000000000 := by omega
      have hX := Lib.hid (show bulkT la[0] ≤ 1000000000 by omega)
      have HL := Lib.hid (fun w' (hb : Below w.heap.size w w') => Lies.below hb _ _ _ hl)
      have HF := Lib.hid (hf.below ((Below.refl w.heap.size w).alloc (Nat.le_refl _) (.cells #[.int .i64 6, .string p, .string nm, .slice (some ⟨b, o, none⟩) la.length ca, .slice ar lr.length cr] 31)))
      obtain ⟨f0, f1, f2, f3, f4⟩ := HF.out
      clear hl hf hz hgb HF
      have HT := Lib.hid plain
      clear plain HR hrf
      go_enter Try.func23, Try.ntmps23
      go_wp2_with (first | (go_at_call 23; refine (ih _ _ la[0] (HL.out _ ((Below.refl _ _).alloc (Nat.le_refl _) _)) hX.out).mono ?_; rintro e w2 ⟨rfl, hb2⟩; obtain ⟨-, hb3⟩ := alloc_known hb2))
      go_ret
      exact HT.out _ HX.out _ hb3
    · have e0 : ((la.length : Int) == 0) = true := by rw [beq_iff_eq]; omega
      have HX := Lib.hid (show (⟨#[91, 93]⟩ : ByteArray) = textT (.mk 6 p nm la lr) by
        rw [textT]
        have : la = [] := List.length_eq_zero_iff.1 (by omega)
        subst this
        show _ = _ ++ headT []
        rw [headT, ba_nil])
      have HT := Lib.hid plain
      clear ih plain HA HR haf hrf
      go_enter Try.func23, Try.ntmps23
      go_wp2_with fail
      go_ret
      exact HT.out _ HX.out _ ((Below.refl _ _).alloc (Nat.le_refl _) _)
  by_cases k7 : kd = 7
  · subst k7
    have hlla := Nat.le_trans hca hcm
    unfold maxLen at hlla
    have HT := Lib.hid plain
    have HIH := Lib.hid ih
    clear plain ih
    obtain ⟨W1, hQ⟩ : ∃ W1, W1 = w.alloc (.cells #[.int .i64 7, .string p, .string nm, .slice aa la.length ca, .slice ar lr.length cr] 31) := ⟨_, rfl⟩
    have HQ := Lib.hid hQ
    have HB1 := Lib.hid (show W1.heap[w.heap.size]? = some (.cells #[.int .i64 7, .string p, .string nm, .slice aa la.length ca, .slice ar lr.length cr] 31) by rw [hQ]; exact heap_alloc_new w _)
    have HW1 := Lib.hid (show Below w.heap.size w W1 by rw [hQ]; exact (Below.refl _ _).alloc (Nat.le_refl _) _)
    have HS1 := Lib.hid (show w.heap.size + 1 ≤ W1.heap.size by rw [hQ]; simp)
    clear hQ
    go_enter Try.func23, Try.ntmps23
    go_wp2_with fail
    go_loopw [3, 4] (fun sv iv wr => ∃ (k : Nat) (S : ByteArray), k ≤ la.length ∧ iv = .int .i64 k ∧ sv = .string S ∧ S.size ≤ 1000000005 ∧ Below (w.heap.size + 1) W1 wr ∧ Hid (S = ⟨#[102, 117, 110, 99, 40]⟩ ++ joinB ((la.take k).map textT))) (fun _ iv _ => la.length - (intOf iv).toNat)
    case atStart => exact ⟨0, ⟨#[102, 117, 110, 99, 40]⟩, by omega, rfl, rfl, by decide, by rw [HQ.out]; exact Below.refl _ _, by show _ = _ ++ joinB []; rw [join_nil, ba_nil]⟩
    case round =>
      obtain ⟨k, S, hk, rfl, rfl, hS, hb, H⟩ := hrel
      have hbox : wr.heap[w.heap.size]? = _ := (hb.block w.heap.size (by omega)).trans HB1.out
      have c3 : wr.cell? ⟨w.heap.size, 3, none⟩ = some (.slice aa la.length ca) := by simp [World.cell?, hbox]
      have c4 : wr.cell? ⟨w.heap.size, 4, none⟩ = some (.slice ar lr.length cr) := by simp [World.cell?, hbox]
      have HB := Lib.hid hb
      have HW := Lib.hid (HW1.out.trans (hb.mono (by omega)))
      clear hb hbox
      by_cases hlt : k < la.length
      · obtain ⟨b, o, rfl⟩ := haf (by omega)
        obtain ⟨x0, x1, x2, x3, x4, hl, hf⟩ := HA.out.get k la[k] (by simp)
        have hl' := Lib.hid (Lies.below HW.out _ _ _ hl)
        obtain ⟨f0, f1, f2, f3, f4⟩ := hf.below HW.out
        have hgb := bulk_get la k hlt
        have hz := text_le la[k]
        have hX := Lib.hid (show bulkT la[k] ≤ 1000000000 by omega)
        have hsz : (textT la[k]).size ≤ 1000000000 := by omega
        have hnx := joinB_le la (k + 1) 1000000000 hbla
        have HN := Lib.hid (join_next la k hlt)
        clear hl hf hz hgb
        by_cases hk0 : k = 0
        · subst hk0
          rw [if_pos rfl] at HN
          have hnx' := joinB_le la 1 1000000000 hbla
          simp only [Nat.zero_mul, Nat.add_zero] at f0 f1 f2 f3 f4
          have HSS := Lib.hid (show S ++ textT la[0] = ⟨#[102, 117, 110, 99, 40]⟩ ++ joinB ((la.take 1).map textT) by rw [H.out, ba_assoc, HN.out])
          go_wp2_with (first | (go_at_call 23; refine (HIH.out _ _ la[0] hl'.out hX.out).mono ?_; rintro e w2 ⟨rfl, hb2⟩; have HB2 := Lib.hid hb2; clear hb2))
          exact ⟨⟨1, S ++ textT la[0], by omega, rfl, rfl, by rw [HSS.out, ByteArray.size_append]; have : (⟨#[102, 117, 110, 99, 40]⟩ : ByteArray).size = 5 := rfl; omega, HB.out.trans (HB2.out.mono (Nat.le_trans HS1.out HB.out.size)), HSS⟩, by simp [intOf]; omega⟩
        · rw [if_neg hk0] at HN
          have hkp : (0 : Int) < k := by omega
          have HSS := Lib.hid (show S ++ ⟨#[44, 32]⟩ ++ textT la[k] = ⟨#[102, 117, 110, 99, 40]⟩ ++ joinB ((la.take (k + 1)).map textT) by rw [HN.out, H.out]; simp only [ba_assoc])
          go_wp2_with (first | (go_at_call 23; refine (HIH.out _ _ la[k] hl'.out hX.out).mono ?_; rintro e w2 ⟨rfl, hb2⟩; have HB2 := Lib.hid hb2; clear hb2))
          exact ⟨⟨k + 1, S ++ ⟨#[44, 32]⟩ ++ textT la[k], by omega, by go_num, rfl, by rw [HSS.out, ByteArray.size_append]; have : (⟨#[102, 117, 110, 99, 40]⟩ : ByteArray).size = 5 := rfl; omega, HB.out.trans (HB2.out.mono (Nat.le_trans HS1.out HB.out.size)), HSS⟩, by simp [intOf]; omega⟩
      · have hkl : k = la.length := by omega
        have HS := Lib.hid (show S = ⟨#[102, 117, 110, 99, 40]⟩ ++ joinB (textL la) by rw [H.out, hkl, List.take_length, textL_map])
        clear H hkl
        by_cases hl0 : 0 < lr.length
        · obtain ⟨b, o, rfl⟩ := hrf hl0
          obtain ⟨x0, x1, x2, x3, x4, hl, hf⟩ := HR.out.get 0 lr[0] (by simp [hl0])
          rw [Nat.zero_mul, Nat.add_zero] at hf
          have hgb := bulk_get lr 0 hl0
          have HX := Lib.hid (show S ++ ⟨#[41, 32]⟩ ++ textT lr[0] = textT (.mk 7 p nm la lr) by
            rw [HS.out, textT]
            show _ = _ ++ resT lr
            rw [(head_at lr hl0).2]
            rw [show (⟨#[41, 32]⟩ : ByteArray) = ⟨#[41]⟩ ++ ⟨#[32]⟩ from rfl]
            simp only [ba_assoc])
          have hz := text_le lr[0]
          have hlr : (0 : Int) < lr.length := by omega
          have hsz : (textT lr[0]).size ≤ 1000000000 := by omega
          have hX := Lib.hid (show bulkT lr[0] ≤ 1000000000 by omega)
          have HL := Lib.hid (Lies.below HW.out _ _ _ hl)
          obtain ⟨f0, f1, f2, f3, f4⟩ := hf.below HW.out
          clear hl hf hz hgb
          go_wp2_with (first | (go_at_call 23; refine (HIH.out _ _ lr[0] HL.out hX.out).mono ?_; rintro e w4 ⟨rfl, hb4⟩))
          go_ret
          exact HT.out _ HX.out _ (HW.out.trans (hb4.mono HW.out.size))
        · have hlr : ¬ (0 : Int) < lr.length := by omega
          have HX := Lib.hid (show S ++ ⟨#[41]⟩ = textT (.mk 7 p nm la lr) by
            rw [HS.out, textT]
            have : lr = [] := List.length_eq_zero_iff.1 (by omega)
            subst this
            show _ = _ ++ resT []
            rw [resT, ba_nil])
          go_wp2_with fail
          go_ret
          exact HT.out _ HX.out _ HW.out
  · have n0 := beq_no (k := kd) (c := 0) (fun h => k0 (by simp [h]))
    have n1 := beq_no (k := kd) (c := 1) (fun h => k0 (by simp [h]))
    have n2 := beq_no (k := kd) (c := 2) (fun h => k0 (by simp [h]))
    have n3 := beq_no (k := kd) (c := 3) (fun h => k0 (by simp [h]))
    have n4 := beq_no (k := kd) (c := 4) (fun h => k0 (by simp [h]))
    have n5 := beq_no (k := kd) (c := 5) (fun h => k0 (by simp [h]))
    have n8 := beq_no (k := kd) (c := 8) (fun h => k0 (by simp [h]))
    have n9 := beq_no (k := kd) (c := 9) (fun h => k0 (by simp [h]))
    have n6 := beq_no k6
    have n7 := beq_no k7
    have HX := Lib.hid (show (⟨#[]⟩ : ByteArray) = textT (.mk kd p nm la lr) by
      simp only [not_or] at k0
      obtain ⟨g0, g1, g2, g3, g4, g5, g8, g9⟩ := k0
      rw [textT, if_neg g0, if_neg g1, if_neg g2, if_neg g3, if_neg g4, if_neg g5, if_neg g8, if_neg g9, if_neg k6, if_neg k7])
    have HT := Lib.hid plain
    clear ih plain HA HR haf hrf k0 k6 k7
    go_enter Try.func23, Try.ntmps23
    go_wp2_with fail
    go_ret
    exact HT.out _ HX.out _ ((Below.refl _ _).alloc (Nat.le_refl _) _)
end Go.Proofs.Ytcelpmojhjnggaa

/- A type in memory of its own: each, copied. -/
namespace Go.Proofs.Ytcelpmojhjnggaa
open Go Go.RowKit Go.Sort KindsP
set_option maxHeartbeats 1000000
set_option maxRecDepth 100000

theorem Try.info31' : (Try.prog.info? 31).map (fun i => (i.zero, i.size, i.bytes)) = some (some (.agg #[.int .i64 0, .string ⟨#[]⟩, .string ⟨#[]⟩, .slice none 0 0, .slice none 0 0]), 5, 88) := by kernel_rfl
/-- values of five cells each -/
def cells5 : Value → List Value
  | .agg cs => cs.toList
  | _ => []
def Fives (vs : List Value) : Prop := ∀ v ∈ vs, ∃ c0 c1 c2 c3 c4, v = .agg #[c0, c1, c2, c3, c4]
theorem fives_len (vs : List Value) (h : Fives vs) : (vs.flatMap cells5).length = vs.length * 5 := by
  induction vs with
  | nil => rfl
  | cons v vs ih =>
    obtain ⟨c0, c1, c2, c3, c4, rfl⟩ := h v (List.mem_cons_self ..)
    rw [List.flatMap_cons, List.length_append, ih (fun x hx => h x (List.mem_cons_of_mem _ hx)), List.length_cons]
    simp [cells5]; omega
theorem fives_get (vs : List Value) (h : Fives vs) : ∀ (i : Nat) (c0 c1 c2 c3 c4 : Value), vs[i]? = some (.agg #[c0, c1, c2, c3, c4]) →
    (vs.flatMap cells5)[i * 5]? = some c0 ∧ (vs.flatMap cells5)[i * 5 + 1]? = some c1 ∧ (vs.flatMap cells5)[i * 5 + 2]? = some c2 ∧ (vs.flatMap cells5)[i * 5 + 3]? = some c3 ∧ (vs.flatMap cells5)[i * 5 + 4]? = some c4 := by
  induction vs with
  | nil => intro i c0 c1 c2 c3 c4 hi; simp at hi
  | cons v vs ih =>
    intro i c0 c1 c2 c3 c4 hi
    obtain ⟨x0, x1, x2, x3, x4, rfl⟩ := h v (List.mem_cons_self ..)
    have e : ((Value.agg #[x0, x1, x2, x3, x4]) :: vs).flatMap cells5 = x0 :: x1 :: x2 :: x3 :: x4 :: vs.flatMap cells5 := rfl
    rw [e]
    cases i with
    | zero =>
      simp only [List.getElem?_cons_zero, Option.some.injEq, Value.agg.injEq, Array.mk.injEq, List.cons.injEq, and_true] at hi
      obtain ⟨rfl, rfl, rfl, rfl, rfl⟩ := hi
      exact ⟨rfl, rfl, rfl, rfl, rfl⟩
    | succ i =>
      rw [List.getElem?_cons_succ] at hi
      have := ih (fun x hx => h x (List.mem_cons_of_mem _ hx)) i c0 c1 c2 c3 c4 hi
      rw [show (i + 1) * 5 = i * 5 + 1 + 1 + 1 + 1 + 1 by omega]
      exact this
/-- a slice that holds types, in blocks that ok knows -/
def RowIn (ok : Nat → Prop) (R : Value → Ty → Prop) (w : World) (v : Value) (l : List Ty) : Prop :=
  ∃ a c, v = .slice a l.length c ∧ l.length ≤ c ∧ c ≤ maxLen ∧ (l = [] ∨ ∃ b o, a = some ⟨b, o, none⟩ ∧ ok b ∧ ∀ i x, l[i]? = some x → ∃ c0 c1 c2 c3 c4, R (.agg #[c0, c1, c2, c3, c4]) x ∧ Five w b (o + i * 5) c0 c1 c2 c3 c4)
/-- a type lies in memory, its rows in blocks that ok knows -/
def LiesIn (ok : Nat → Prop) (w : World) : Nat → Value → Ty → Prop
  | 0, _, _ => False
  | d + 1, v, .mk k p n la lr => ∃ va vr, v = .agg #[.int .i64 k, .string p, .string n, va, vr] ∧ RowIn ok (LiesIn ok w d) w va la ∧ RowIn ok (LiesIn ok w d) w vr lr
theorem RowIn.row {ok : Nat → Prop} {R R' : Value → Ty → Prop} {w : World} {v : Value} {l : List Ty} (h : RowIn ok R w v l) (hR : ∀ v t, R v t → R' v t) : RowOf R' w v l := by
  obtain ⟨a, c, h1, h2, h3, h4⟩ := h
  refine ⟨a, c, h1, h2, h3, ?_⟩
  rcases h4 with h4 | ⟨b, o, h5, _, h6⟩
  · exact .inl h4
  · refine .inr ⟨b, o, h5, fun i x hx => ?_⟩
    obtain ⟨c0, c1, c2, c3, c4, hr, hf⟩ := h6 i x hx
    exact ⟨c0, c1, c2, c3, c4, hR _ _ hr, hf⟩
theorem LiesIn.lies {ok : Nat → Prop} {w : World} : ∀ (d : Nat) (v : Value) (t : Ty), LiesIn ok w d v t → Lies w d v t
  | 0, _, _, h => h.elim
  | d + 1, _, .mk _ _ _ _ _, ⟨va, vr, h1, h2, h3⟩ => ⟨va, vr, h1, h2.row (LiesIn.lies d), h3.row (LiesIn.lies d)⟩
theorem five_kept {w w' : World} {b o : Nat} {c0 c1 c2 c3 c4 : Value} (h : Five w b o c0 c1 c2 c3 c4) (hb : w'.heap[b]? = w.heap[b]?) : Five w' b o c0 c1 c2 c3 c4 :=
  ⟨(World.cell?_of_block (w := w) (w' := w') hb).trans h.c0, (World.cell?_of_block (w := w) (w' := w') hb).trans h.c1, (World.cell?_of_block (w := w) (w' := w') hb).trans h.c2, (World.cell?_of_block (w := w) (w' := w') hb).trans h.c3, (World.cell?_of_block (w := w) (w' := w') hb).trans h.c4⟩
theorem RowIn.kept {ok ok' : Nat → Prop} {R R' : Value → Ty → Prop} {w w' : World} {v : Value} {l : List Ty} (h : RowIn ok R w v l) (hR : ∀ v t, R v t → R' v t) (hk : ∀ b, ok b → b < w.heap.size → ok' b ∧ w'.heap[b]? = w.heap[b]?) : RowIn ok' R' w' v l := by
  obtain ⟨a, c, h1, h2, h3, h4⟩ := h
  refine ⟨a, c, h1, h2, h3, ?_⟩
  by_cases hl : l = []
  · exact .inl hl
  rcases h4 with h4 | ⟨b, o, h5, ho, h6⟩
  · exact .inl h4
  · have hlt : b < w.heap.size := by
      cases l with
      | nil => exact absurd rfl hl
      | cons x xs =>
        obtain ⟨_, _, _, _, _, _, hf⟩ := h6 0 x rfl
        exact World.block_lt_of_cell? w _ hf.c0
    obtain ⟨k1, k2⟩ := hk b ho hlt
    refine .inr ⟨b, o, h5, k1, fun i x hx => ?_⟩
    obtain ⟨c0, c1, c2, c3, c4, hr, hf⟩ := h6 i x hx
    exact ⟨c0, c1, c2, c3, c4, hR _ _ hr, five_kept hf k2⟩
theorem LiesIn.kept {ok ok' : Nat → Prop} {w w' : World} (hk : ∀ b, ok b → b < w.heap.size → ok' b ∧ w'.heap[b]? = w.heap[b]?) : ∀ (d : Nat) (v : Value) (t : Ty), LiesIn ok w d v t → LiesIn ok' w' d v t
  | 0, _, _, h => h.elim
  | d + 1, _, .mk _ _ _ _ _, ⟨va, vr, h1, h2, h3⟩ => ⟨va, vr, h1, h2.kept (LiesIn.kept hk d) hk, h3.kept (LiesIn.kept hk d) hk⟩
theorem LiesIn.below {ok : Nat → Prop} {w w' : World} (hb : Below w.heap.size w w') {d : Nat} {v : Value} {t : Ty} (h : LiesIn ok w d v t) : LiesIn ok w' d v t := h.kept (fun b h1 h2 => ⟨h1, hb.block b h2⟩)
theorem RowIn.below {ok : Nat → Prop} {w w' : World} (hb : Below w.heap.size w w') {d : Nat} {v : Value} {l : List Ty} (h : RowIn ok (LiesIn ok w d) w v l) : RowIn ok (LiesIn ok w' d) w' v l := h.kept (fun _ _ h => h.below hb) (fun b h1 h2 => ⟨h1, hb.block b h2⟩)
theorem lies_five {w : World} {d : Nat} {v : Value} {t : Ty} (h : Lies w d v t) : ∃ c0 c1 c2 c3 c4, v = .agg #[c0, c1, c2, c3, c4] := by
  cases d with
  | zero => exact h.elim
  | succ d =>
  obtain ⟨k, p, n, la, lr⟩ := t
  obtain ⟨va, vr, rfl, _⟩ := h
  exact ⟨_, _, _, _, _, rfl⟩
/-- values that are types, one by one -/
def Vals (R : Value → Ty → Prop) (vs : List Value) (ts : List Ty) : Prop := vs.length = ts.length ∧ ∀ (i : Nat) (v : Value) (t : Ty), vs[i]? = some v → ts[i]? = some t → R v t
theorem Vals.mono {R R' : Value → Ty → Prop} {vs : List Value} {ts : List Ty} (h : Vals R vs ts) (hR : ∀ v t, R v t → R' v t) : Vals R' vs ts := ⟨h.1, fun i v t hv ht => hR _ _ (h.2 i v t hv ht)⟩
theorem Vals.fives {w : World} {d : Nat} {vs : List Value} {ts : List Ty} (h : Vals (Lies w d) vs ts) : Fives vs := by
  intro v hv
  obtain ⟨i, hi, rfl⟩ := List.mem_iff_getElem.1 hv
  have hl := h.1
  exact lies_five (h.2 i vs[i] (ts[i]'(by omega)) (List.getElem?_eq_getElem hi) (List.getElem?_eq_getElem (by omega)))
theorem Vals.snoc {R : Value → Ty → Prop} {vs : List Value} {ts : List Ty} {v : Value} {t : Ty} (h : Vals R vs ts) (hv : R v t) : Vals R (vs ++ [v]) (ts ++ [t]) := by
  refine ⟨by simp [h.1], fun i x y hx hy => ?_⟩
  by_cases hi : i < vs.length
  · rw [List.getElem?_append_left hi] at hx
    rw [List.getElem?_append_left (by rw [← h.1]; exact hi)] at hy
    exact h.2 i x y hx hy
  · rw [List.getElem?_append_right (by omega)] at hx
    rw [List.getElem?_append_right (by rw [← h.1]; omega), ← h.1] at hy
    cases hz : i - vs.length with
    | zero => rw [hz] at hx hy; simp at hx hy; rw [← hx, ← hy]; exact hv
    | succ n => rw [hz] at hx; simp at hx
theorem RowIn.of_own {w : World} {B d : Nat} {ok : Nat → Prop} {v : Value} {vs : List Value} {ts : List Ty} (h : w.ownsRow B 31 5 v ts.length (vs.flatMap cells5)) (hv : Vals (LiesIn ok w d) vs ts) (hok : ∀ b, B ≤ b → ok b) : RowIn ok (LiesIn ok w d) w v ts := by
  have hcc := fun g hg => h.cells (g := g) hg
  rcases h.2 with ⟨rfl, h0⟩ | ⟨g, cap, cur, rfl, hB, hg, hnc, hcm, _⟩
  · exact ⟨none, 0, by rw [h0], by omega, by unfold maxLen; omega, .inl (List.length_eq_zero_iff.1 h0)⟩
  · refine ⟨_, cap, rfl, hnc, hcm, .inr ⟨g, 0, rfl, hok g hB, fun i x hx => ?_⟩⟩
    have hi : i < ts.length := (List.getElem?_eq_some_iff.1 hx).1
    have hiv : i < vs.length := by rw [hv.1]; exact hi
    have hl := hv.2 i vs[i] x (List.getElem?_eq_getElem hiv) hx
    obtain ⟨c0, c1, c2, c3, c4, e⟩ := lies_five (LiesIn.lies _ _ _ hl)
    obtain ⟨g0, g1, g2, g3, g4⟩ := fives_get vs (hv.mono (fun _ _ h => LiesIn.lies _ _ _ h)).fives i c0 c1 c2 c3 c4 (by rw [List.getElem?_eq_getElem hiv, e])
    refine ⟨c0, c1, c2, c3, c4, by rw [← e]; exact hl, ?_⟩
    have hc : ∀ (j : Nat) (u : Value), (vs.flatMap cells5)[j]? = some u → w.cell? ⟨g, 0 + j, none⟩ = some u := fun j u hu => by have := hcc g rfl j u hu; rwa [addr_add] at this
    refine ⟨hc _ _ g0, ?_, ?_, ?_, ?_⟩
    · have := hc _ _ g1; rwa [← Nat.add_assoc] at this
    · have := hc _ _ g2; rwa [← Nat.add_assoc] at this
    · have := hc _ _ g3; rwa [← Nat.add_assoc] at this
    · have := hc _ _ g4; rwa [← Nat.add_assoc] at this

abbrev fCopied : Value := .func (.func 39) #[] #[]
theorem each44_any (d : Nat) (w : World) (v : Value) (l : List Ty) (h : RowOf (Lies w d) w v l) (hll : l.length ≤ 1000000000)
    (ih : ∀ (i : Nat) (hi : i < l.length) (w : World) (v : Value), Lies w d v l[i] → Calls Try.prog 39 #[v] w fun e w' => ∃ u, e = .returned u ∧ LiesIn (fun b => w.heap.size ≤ b) w' d u l[i] ∧ Below w.heap.size w w') :
    Calls Try.prog 44 #[v, fCopied] w fun e w' => ∃ u, e = .returned u ∧ RowIn (fun b => w.heap.size ≤ b) (LiesIn (fun b => w.heap.size ≤ b) w' d) w' u l ∧ Below w.heap.size w w' := by
  obtain ⟨a, c, rfl, hc, hcm, hf⟩ := h.form
  have HA := Lib.hid h
  obtain ⟨i9, hi9, hz90, hz91, hz92⟩ := info_parts Try.info31'
  clear h
  go_enter Try.func44, Try.ntmps44
  go_wp2_with fail
  go_loopw [5, 10] (fun ov iv wr => ∃ (k : Nat) (vs : List Value), k ≤ l.length ∧ iv = .int .i64 k ∧ wr.ownsRow w.heap.size 31 5 ov k (vs.flatMap cells5) ∧ Vals (LiesIn (fun b => w.heap.size ≤ b ∧ b < wr.heap.size ∧ ov.ownBlock ≠ some b) wr d) vs (l.take k) ∧ Below w.heap.size w wr) (fun _ iv _ => l.length - (intOf iv).toNat)
  case atStart => exact ⟨0, [], by omega, rfl, World.ownsRow_nil _ _ _ _, ⟨by simp, by simp⟩, Below.refl _ _⟩
  case round =>
    obtain ⟨k, vs, hk, rfl, hown, hvs, hb⟩ := hrel
    obtain ⟨ao, cap, rfl⟩ := own_shape hown
    have HB := Lib.hid hb
    have HO := Lib.hid hown
    have HV := Lib.hid hvs
    have hsz := hb.size
    clear hb hown hvs
    by_cases hlt : k < l.length
    · obtain ⟨b, o, rfl⟩ := hf (by omega)
      obtain ⟨x0, x1, x2, x3, x4, hl, hf⟩ := HA.out.get k l[k] (by simp)
      obtain ⟨f0, f1, f2, f3, f4⟩ := hf.below HB.out
      have HT := Lib.hid (show l.take (k + 1) = l.take k ++ [l[k]] by rw [List.take_add_one, List.getElem?_eq_getElem hlt]; rfl)
      have HL := Lib.hid (fun w' (hb : Below wr.heap.size wr w') => Lies.below (HB.out.trans (hb.mono hsz)) _ _ _ hl)
      obtain ⟨q0, q1, q2, q3, q4, q5, q6, q7, q8, rfl, rfl, rfl, rfl, rfl⟩ := lies_form hl
      clear hl hf
      go_wp2_with (first | (go_at_call 39; refine (ih k hlt _ _ (HL.out _ ((Below.refl _ _).alloc (Nat.le_refl _) _))).mono ?_; rintro e w2 ⟨u, rfl, hlu, hb2⟩; obtain ⟨-, hb3⟩ := alloc_known hb2; obtain ⟨c0, c1, c2, c3, c4, rfl⟩ := lies_five (LiesIn.lies _ _ _ hlu); obtain ⟨t0, t1, t2, t3, t4, t5, t6, t7, t8, rfl, rfl, rfl, rfl, rfl⟩ := lies_form (LiesIn.lies _ _ _ hlu); have HU := Lib.hid hlu; have HB2 := Lib.hid hb3; have hsz2 := hb3.size; clear hb2 hb3 hlu) | (at_builtin; refine wpList_append_lies _ rfl (.tmp 14) (.tmp 18) 23 rfl w.heap.size 31 i9 _ 5 88 Try.underlying23 hi9 hz90 hz91 hz92 rfl (by decide) _ k _ rfl ((own_below HO.out HB2.out).alloc _) ⟨w2.heap.size, 0, none⟩ 1 1 [.int .i64 t0, .string t1, .string t2, .slice t3 t4 t5, .slice t6 t7 t8] rfl rfl (World.news_of_block (cs := #[.int .i64 t0, .string t1, .string t2, .slice t3 t4 t5, .slice t6 t7 t8]) (t := 31) (fr := (0, 0)) (heap_alloc_new w2 _)) (by simp [Value.oneCell']) (by omega) (by unfold maxLen; omega) (by omega) (by simp; omega) (w2.heap.size + 1) (by simp) ?_; intro gg cp w3 hown3 hgrow hat hlt3; have HG : Hid ((w2.alloc (.cells #[.int .i64 t0, .string t1, .string t2, .slice t3 t4 t5, .slice t6 t7 t8] 31)).grownBy w3 (Value.slice ao k cap).ownBlock) := hgrow; have HW3 := Lib.hid hown3; have HAT : Hid ((Value.slice ao k cap).ownBlock = some gg ∨ gg = w2.heap.size + 1) := hat; clear hown3 hgrow hat))
      have hbw : Below w.heap.size w w3 := ((HB.out.trans (HB2.out.mono hsz)).alloc (by omega) _).grown HG.out (by simp; omega) (fun g hg => (HO.out.lt g hg).1)
      have hgo := fun g hg => HO.out.lt g hg
      have hat := HAT.out
      have hold : ∀ b, (w.heap.size ≤ b ∧ b < wr.heap.size ∧ (Value.slice ao k cap).ownBlock ≠ some b) → b < wr.heap.size → (w.heap.size ≤ b ∧ b < w3.heap.size ∧ (Value.slice (some ⟨gg, 0, none⟩) (k + 1) cp).ownBlock ≠ some b) ∧ w3.heap[b]? = wr.heap[b]? := by
        intro b hb hlt
        obtain ⟨h1, h2, h3⟩ := hb
        have e1 : w2.heap[b]? = wr.heap[b]? := HB2.out.block b hlt
        have e2 := heap_alloc_old w2 (.cells #[.int .i64 t0, .string t1, .string t2, .slice t3 t4 t5, .slice t6 t7 t8] 31) (r := b) (by omega)
        have e3 := HG.out.block b (by simp; omega) (Ne.symm h3)
        have hs3 := HG.out.size
        simp at hs3
        refine ⟨⟨h1, by omega, ?_⟩, e3.trans (e2.trans e1)⟩
        rcases hat with h | h
        · intro e; apply h3; rw [h]; exact e
        · intro e; have : gg = b := by simpa [Value.ownBlock] using e
          omega
      have hnew : ∀ b, (wr.alloc (.cells #[.int .i64 q0, .string q1, .string q2, .slice q3 q4 q5, .slice q6 q7 q8] 31)).heap.size ≤ b → b < w2.heap.size → (w.heap.size ≤ b ∧ b < w3.heap.size ∧ (Value.slice (some ⟨gg, 0, none⟩) (k + 1) cp).ownBlock ≠ some b) ∧ w3.heap[b]? = w2.heap[b]? := by
        intro b hb hlt
        simp at hb
        have hne : ∀ g, (Value.slice ao k cap).ownBlock = some g → g ≠ b := fun g hg => by have := (hgo g hg).2; omega
        have e2 := heap_alloc_old w2 (.cells #[.int .i64 t0, .string t1, .string t2, .slice t3 t4 t5, .slice t6 t7 t8] 31) (r := b) hlt
        have e3 := HG.out.block b (by simp; omega) (fun e => hne b e.symm rfl)
        have hs3 := HG.out.size
        simp at hs3
        refine ⟨⟨by omega, by omega, ?_⟩, e3.trans e2⟩
        intro e
        have : gg = b := by simpa [Value.ownBlock] using e
        rcases hat with h | h
        · exact hne gg h this
        · omega
      refine ⟨⟨k + 1, vs ++ [.agg #[.int .i64 t0, .string t1, .string t2, .slice t3 t4 t5, .slice t6 t7 t8]], by omega, by go_num, ?_, ?_, hbw⟩, by simp [intOf]; omega⟩
      · rw [List.flatMap_append]
        exact HW3.out
      · rw [HT.out]
        exact (HV.out.mono (fun _ _ h => h.kept hold)).snoc (HU.out.kept hnew)
    · have hkl : k = l.length := by omega
      go_wp2_with fail
      go_ret
      refine ⟨_, rfl, ?_, HB.out⟩
      subst hkl
      have := HV.out
      rw [List.take_length] at this
      exact RowIn.of_own HO.out (this.mono (fun _ _ h => h.kept (fun b h1 _ => ⟨h1.1, rfl⟩))) (fun _ h => h)
end Go.Proofs.Ytcelpmojhjnggaa
