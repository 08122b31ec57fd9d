/- A type as text. -/
import Derived.Test.YtcelpmojhjnggaaI01
import Derived.Test.YtcelpmojhjnggaaI02
import Derived.Deep.AppendLies
namespace Go.Proofs.Ytcelpmojhjnggaa
open Go Go.RowKit Go.Sort KindsP
set_option maxHeartbeats 1000000
set_option maxRecDepth 100000

def joinB (l : List ByteArray) : ByteArray := ⟨(Lib.join (l.map (·.data.toList)) [44, 32]).toArray⟩
mutual
/-- a type, as text -/
def textT : Ty → ByteArray
  | .mk k p n la lr =>
    if k = 0 then ⟨#[110, 111, 110, 101]⟩ else if k = 1 then ⟨#[105, 110, 116]⟩ else if k = 2 then ⟨#[98, 111, 111, 108]⟩ else if k = 3 then ⟨#[115, 116, 114, 105, 110, 103]⟩
    else if k = 4 then ⟨#[110, 105, 108]⟩ else if k = 5 then ⟨#[42]⟩ ++ p ++ ⟨#[46]⟩ ++ n else if k = 8 then p ++ ⟨#[46]⟩ ++ n else if k = 9 then n
    else if k = 6 then ⟨#[91, 93]⟩ ++ headT la else if k = 7 then ⟨#[102, 117, 110, 99, 40]⟩ ++ joinB (textL la) ++ ⟨#[41]⟩ ++ resT lr else ⟨#[]⟩
def textL : List Ty → List ByteArray
  | [] => []
  | x :: xs => textT x :: textL xs
def headT : List Ty → ByteArray
  | [] => ⟨#[]⟩
  | x :: _ => textT x
def resT : List Ty → ByteArray
  | [] => ⟨#[]⟩
  | x :: _ => ⟨#[32]⟩ ++ textT x
end
theorem textL_map (l : List Ty) : textL l = l.map textT := by
  induction l with
  | nil => rw [textL]; rfl
  | cons x xs ih => rw [textL, ih]; rfl
mutual
/-- more than a type's text can be long -/
def bulkT : Ty → Nat
  | .mk _ p n la lr => 20 + p.size + n.size + bulkL la + bulkL lr
def bulkL : List Ty → Nat
  | [] => 0
  | x :: xs => bulkT x + 3 + bulkL xs
end
theorem size_mk (l : List UInt8) : (⟨l.toArray⟩ : ByteArray).size = l.length := by rfl
theorem join2_le (l : List (List UInt8)) : ∀ M : Nat, (l.foldr (fun x n => x.length + 2 + n) 0) ≤ M → (Lib.join l [44, 32]).length ≤ M := by
  induction l with
  | nil => intro M h; simp [Lib.join]
  | cons x xs ih =>
    intro M h
    simp only [List.foldr_cons] at h
    have := ih _ (Nat.le_refl _)
    unfold Lib.join at this ⊢
    cases xs with
    | nil => simp; omega
    | cons y ys =>
      rw [List.intercalate_cons_cons]
      simp only [List.length_append, List.length_cons, List.length_nil] at this ⊢
      omega
mutual
theorem text_le : ∀ t : Ty, (textT t).size ≤ bulkT t
  | .mk k p n la lr => by
    have h1 := textL_le la
    have h2 := headT_le la
    have h3 := resT_le lr
    have h4 : (joinB (textL la)).size ≤ bulkL la := by
      unfold joinB
      rw [size_mk]
      exact join2_le _ _ h1
    rw [textT, bulkT]
    repeat' split
    all_goals (try simp only [ByteArray.size_append])
    all_goals (try (have q1 : (⟨#[110, 111, 110, 101]⟩ : ByteArray).size = 4 := rfl))
    all_goals (try (have q2 : (⟨#[105, 110, 116]⟩ : ByteArray).size = 3 := rfl))
    all_goals (try (have q3 : (⟨#[98, 111, 111, 108]⟩ : ByteArray).size = 4 := rfl))
    all_goals (try (have q4 : (⟨#[115, 116, 114, 105, 110, 103]⟩ : ByteArray).size = 6 := rfl))
    all_goals (try (have q5 : (⟨#[110, 105, 108]⟩ : ByteArray).size = 3 := rfl))
    all_goals (try (have q6 : (⟨#[42]⟩ : ByteArray).size = 1 := rfl))
    all_goals (try (have q7 : (⟨#[46]⟩ : ByteArray).size = 1 := rfl))
    all_goals (try (have q8 : (⟨#[91, 93]⟩ : ByteArray).size = 2 := rfl))
    all_goals (try (have q9 : (⟨#[102, 117, 110, 99, 40]⟩ : ByteArray).size = 5 := rfl))
    all_goals (try (have q10 : (⟨#[41]⟩ : ByteArray).size = 1 := rfl))
    all_goals (try (have q11 : (⟨#[]⟩ : ByteArray).size = 0 := rfl))
    all_goals omega
theorem textL_le : ∀ l : List Ty, (((textL l).map (·.data.toList)).foldr (fun x n => x.length + 2 + n) 0) ≤ bulkL l
  | [] => by rw [textL, bulkL]; simp
  | x :: xs => by
    rw [textL, bulkL]
    have h1 := text_le x
    have h2 := textL_le xs
    simp only [List.map_cons, List.foldr_cons]
    have : (textT x).data.toList.length = (textT x).size := Array.length_toList
    omega
theorem headT_le : ∀ l : List Ty, (headT l).size ≤ bulkL l
  | [] => by rw [headT, bulkL]; exact Nat.le_refl _
  | x :: xs => by rw [headT, bulkL]; have := text_le x; omega
theorem resT_le : ∀ l : List Ty, (resT l).size ≤ bulkL l
  | [] => by rw [resT, bulkL]; exact Nat.le_refl _
  | x :: xs => by
    rw [resT, bulkL, ByteArray.size_append]
    have := text_le x
    have q : (⟨#[32]⟩ : ByteArray).size = 1 := rfl
    omega
end
theorem bulk_get (l : List Ty) (k : Nat) (h : k < l.length) : bulkT l[k] + l.length ≤ bulkL l + 1 := by
  induction l generalizing k with
  | nil => simp at h
  | cons x xs ih =>
    rw [bulkL]
    have hp : ∀ t : Ty, 20 ≤ bulkT t := by intro t; cases t; rw [bulkT]; omega
    have hx := hp x
    have hl : ∀ l : List Ty, l.length ≤ bulkL l := by
      intro l
      induction l with
      | nil => simp
      | cons y ys ih => rw [bulkL]; have := hp y; simp; omega
    cases k with
    | zero => simp; have := hl xs; omega
    | succ k =>
      simp only [List.length_cons] at h ⊢
      have := ih k (by omega)
      simp
      omega
theorem bulk_len (l : List Ty) : l.length ≤ bulkL l + 1 := by
  cases l with
  | nil => simp
  | cons x xs => have := bulk_get (x :: xs) 0 (by simp); omega

theorem own_shape {w : World} {B e sz : Nat} {v : Value} {n : Nat} {xs : List Value} (h : w.ownsRow B e sz v n xs) : ∃ ao cap, v = .slice ao n cap := by
  rcases h.2 with ⟨rfl, rfl⟩ | ⟨g, cap, cur, rfl, _⟩
  · exact ⟨_, _, rfl⟩
  · exact ⟨_, _, rfl⟩
theorem own_below {w w' : World} {base e sz : Nat} {v : Value} {n : Nat} {xs : List Value} (h : w.ownsRow base e sz v n xs) (hb : Below w.heap.size w w') : w'.ownsRow base e sz v n xs :=
  h.kept (row := some w.heap.size) ⟨hb.os, hb.tape, hb.output, hb.size, fun k hk _ => hb.block k hk⟩ (Or.inr (fun e => by have := (h.lt _ e).2; omega))
theorem Try.info9' : (Try.prog.info? 9).map (fun i => (i.zero, i.size, i.bytes)) = some (some (.string ⟨#[]⟩), 1, 16) := by kernel_rfl
/-- Join of what lies in a row of its own -/
theorem join_own (w : World) (B : Nat) (v : Value) (l : List ByteArray) (hown : w.ownsRow B 9 1 v l.length (l.map Value.string)) (hlen : (joinB l).size ≤ 10000000000) (hl : l.length ≤ 10000000000) :
    Calls Try.prog 46 #[v, .string ⟨#[44, 32]⟩] w fun e w' => e = .returned (.string (joinB l)) ∧ Below w.heap.size w w' := by
  have hcc := fun g hg => hown.cells (g := g) hg
  rcases hown.2 with ⟨rfl, h0⟩ | ⟨g, cap, cur, rfl, hB, hg, hnc, hcm, _⟩
  · have : l = [] := List.length_eq_zero_iff.1 h0
    subst this
    refine (Try.strings_Join_none none 0 ⟨#[44, 32]⟩ w).mono ?_
    rintro e w' ⟨rfl, rfl⟩
    exact ⟨rfl, Below.refl _ _⟩
  · have hlt : g < w.heap.size := (Array.getElem?_eq_some_iff.1 hg).1
    exact Try.strings_Join g 0 cap l ⟨#[44, 32]⟩ w (by
      intro j x hj
      have := hcc g rfl j (.string x) (by rw [List.getElem?_map, hj]; rfl)
      rwa [addr_add] at this) hlt (by omega) hnc (by unfold joinB at hlen; rw [size_mk] at hlen; exact Nat.le_trans hlen (by omega))

theorem lies_form {w : World} {d : Nat} {x0 x1 x2 x3 x4 : Value} {t : Ty} (h : Lies w d (.agg #[x0, x1, x2, x3, x4]) t) :
    ∃ k p n a1 n1 c1 a2 n2 c2, x0 = .int .i64 k ∧ x1 = .string p ∧ x2 = .string n ∧ x3 = .slice a1 n1 c1 ∧ x4 = .slice a2 n2 c2 := by
  cases d with
  | zero => exact h.elim
  | succ d =>
  obtain ⟨k, p, n, la, lr⟩ := t
  obtain ⟨va, vr, h1, h2, h3⟩ := h
  obtain ⟨a1, c1, rfl, _⟩ := h2.form
  obtain ⟨a2, c2, rfl, _⟩ := h3.form
  simp only [Value.agg.injEq, Array.mk.injEq, List.cons.injEq, and_true] at h1
  obtain ⟨e0, e1, e2, e3, e4⟩ := h1
  exact ⟨k, p, n, a1, _, c1, a2, _, c2, e0, e1, e2, e3, e4⟩
abbrev fText : Value := .func (.func 22) #[] #[]
theorem each47_any (d : Nat) (w : World) (v : Value) (l : List Ty) (h : RowOf (Lies w d) w v l) (hbl : bulkL l ≤ 1000000000)
    (ih : ∀ (w : World) (v : Value) (t : Ty), Lies w d v t → bulkT t ≤ 1000000000 → Calls Try.prog 22 #[v] w fun e w' => e = .returned (.string (textT t)) ∧ Below w.heap.size w w') :
    Calls Try.prog 47 #[v, fText] w fun e w' => ∃ u, e = .returned u ∧ w'.ownsRow w.heap.size 9 1 u (textL l).length ((textL l).map Value.string) ∧ Below w.heap.size w w' := by
  obtain ⟨a, c, rfl, hc, hcm, hf⟩ := h.form
  have HA := Lib.hid h
  obtain ⟨i9, hi9, hz90, hz91, hz92⟩ := info_parts Try.info9'
  have hbk := bulk_len l
  clear h
  go_enter Try.func47, Try.ntmps47
  go_wp2_with fail
  go_loopw [5, 10] (fun ov iv wr => ∃ k : Nat, k ≤ l.length ∧ iv = .int .i64 k ∧ wr.ownsRow w.heap.size 9 1 ov k (((l.take k).map textT).map Value.string) ∧ Below w.heap.size w wr) (fun _ iv _ => l.length - (intOf iv).toNat)
  case atStart => exact ⟨0, by omega, rfl, by simpa using World.ownsRow_nil _ _ _ _, Below.refl _ _⟩
  case round =>
    obtain ⟨k, hk, rfl, hown, hb⟩ := hrel
    obtain ⟨ao, cap, rfl⟩ := own_shape hown
    have HB := Lib.hid hb
    have HO := Lib.hid hown
    have hsz := hb.size
    clear hb hown
    by_cases hlt : k < l.length
    · obtain ⟨b, o, rfl⟩ := hf (by omega)
      obtain ⟨x0, x1, x2, x3, x4, hl, hf⟩ := HA.out.get k l[k] (by simp)
      obtain ⟨f0, f1, f2, f3, f4⟩ := hf.below HB.out
      have HT := Lib.hid (show (l.take (k + 1)).map textT = (l.take k).map textT ++ [textT l[k]] by rw [List.take_add_one, List.getElem?_eq_getElem hlt, List.map_append]; rfl)
      have hgb := bulk_get l k hlt
      have hX := Lib.hid (show bulkT l[k] ≤ 1000000000 by omega)
      have HL := Lib.hid (fun w' (hb : Below wr.heap.size wr w') => Lies.below (HB.out.trans (hb.mono hsz)) _ _ _ hl)
      obtain ⟨q0, q1, q2, q3, q4, q5, q6, q7, q8, rfl, rfl, rfl, rfl, rfl⟩ := lies_form hl
      clear hl hf
      go_wp2_with (first | (go_at_call 22; refine (ih _ _ l[k] (HL.out _ ((Below.refl _ _).alloc (Nat.le_refl _) _)) hX.out).mono ?_; rintro e w2 ⟨rfl, hb2⟩; obtain ⟨-, hb3⟩ := alloc_known hb2; have HB2 := Lib.hid hb3; have hsz2 := hb3.size; clear hb2 hb3) | (at_builtin; refine wpList_append_lies _ rfl (.tmp 14) (.tmp 18) 22 rfl w.heap.size 9 i9 _ 1 16 Try.underlying22 hi9 hz90 hz91 hz92 rfl (by decide) _ k _ rfl ((own_below HO.out HB2.out).alloc _) ⟨w2.heap.size, 0, none⟩ 1 1 [.string (textT l[k])] rfl rfl (World.news_of_block (cs := #[.string (textT l[k])]) (t := 9) (fr := (0, 0)) (heap_alloc_new w2 _)) (by simp [Value.oneCell']) (by omega) (by unfold maxLen; omega) (by omega) (by simp; omega) (w2.heap.size + 1) (by simp) ?_; intro gg cp w3 hown3 hgrow hat hlt3; have HG : Hid ((w2.alloc (.cells #[.string (textT l[k])] 9)).grownBy w3 (Value.slice ao k cap).ownBlock) := hgrow; have HW3 := Lib.hid hown3; clear hown3 hgrow hat))
      refine ⟨⟨k + 1, by omega, by go_num, ?_, ?_⟩, by simp [intOf]; omega⟩
      · have := HW3.out
        rw [HT.out, List.map_append]
        exact this
      · exact ((HB.out.trans (HB2.out.mono hsz)).alloc (by omega) _).grown HG.out (by simp; omega) (fun g hg => (HO.out.lt g hg).1)
    · have hkl : k = l.length := by omega
      go_wp2_with fail
      go_ret
      refine ⟨_, rfl, ?_, HB.out⟩
      subst hkl
      have := HO.out
      rw [List.take_length] at this
      rw [textL_map, List.length_map]
      exact this

theorem beq_no {k c : Int} (h : ¬ k = c) : (k == c) = false := by rw [beq_eq_false_iff_ne]; exact h
theorem head_at (l : List Ty) (h : 0 < l.length) : headT l = textT l[0] ∧ resT l = ⟨#[32]⟩ ++ textT l[0] := by
  cases l with
  | nil => simp at h
  | cons x xs => exact ⟨by rw [headT]; rfl, by rw [resT]; rfl⟩
theorem ba_nil (b : ByteArray) : b ++ ⟨#[]⟩ = b := by apply ByteArray.ext; simp

theorem text_any (d : Nat) : ∀ (w : World) (v : Value) (t : Ty), Lies w d v t → bulkT t ≤ 1000000000 → Calls Try.prog 22 #[v] w fun e w' => e = .returned (.string (textT t)) ∧ Below w.heap.size w w' := by
  induction d with
  | zero => intro w v t h; exact h.elim
  | succ d ih =>
  intro w v t h hbt
  obtain ⟨kd, p, nm, la, lr⟩ := t
  obtain ⟨va, vr, rfl, ha, hr⟩ := h
  have hbt' := hbt
  rw [bulkT] at hbt'
  have hpz : p.size ≤ 1000000000 := by omega
  have hnz : nm.size ≤ 1000000000 := by omega
  have hbla : bulkL la ≤ 1000000000 := by omega
  have hblr : bulkL lr ≤ 1000000000 := by omega
  obtain ⟨aa, ca, rfl, hca, hcm, haf⟩ := ha.form
  obtain ⟨ar, cr, rfl, hcr, hcmr, hrf⟩ := hr.form
  have HA := Lib.hid ha
  have HR := Lib.hid hr
  clear ha hr hbt hbt'
  have plain : ∀ (X : ByteArray), X = textT (.mk kd p nm la lr) → ∀ w', Below w.heap.size w w' → (Ending.returned (.string X) = Ending.returned (.string (textT (.mk kd p nm la lr)))) ∧ Below w.heap.size w w' := fun X h w' hb => ⟨by rw [h], hb⟩
  by_cases k0 : kd = 0 ∨ kd = 1 ∨ kd = 2 ∨ kd = 3 ∨ kd = 4 ∨ kd = 5 ∨ kd = 8 ∨ kd = 9
  · rcases k0 with rfl | rfl | rfl | rfl | rfl | rfl | rfl | rfl
    all_goals
      have HT := Lib.hid plain
      clear ih plain HA HR haf hrf
      go_enter Try.func22, Try.ntmps22
      go_wp2_with fail
      go_ret
      exact HT.out _ (by rw [textT]; rfl) _ ((Below.refl _ _).alloc (Nat.le_refl _) _)
  by_cases k6 : kd = 6
  · subst k6
    by_cases hl0 : 0 < la.length
    · obtain ⟨b, o, rfl⟩ := haf hl0
      obtain ⟨x0, x1, x2, x3, x4, hl, hf⟩ := HA.out.get 0 la[0] (by simp [hl0])
      rw [Nat.zero_mul, Nat.add_zero] at hf
      have hgb := bulk_get la 0 hl0
      have HX := Lib.hid (show (⟨#[91, 93]⟩ : ByteArray) ++ textT la[0] = textT (.mk 6 p nm la lr) by rw [← (head_at la hl0).1, textT]; rfl)
      have hz := text_le la[0]
      have e0 : ((la.length : Int) == 0) = false := by rw [beq_eq_false_iff_ne]; omega
      have hla : (0 : Int) < la.length := by omega
      have hsz : (textT la[0]).size ≤ 1000000000 := by omega
      have hX := Lib.hid (show bulkT la[0] ≤ 1000000000 by omega)
      have HL := Lib.hid (fun w' (hb : Below w.heap.size w w') => Lies.below hb _ _ _ hl)
      have HF := Lib.hid (hf.below ((Below.refl w.heap.size w).alloc (Nat.le_refl _) (.cells #[.int .i64 6, .string p, .string nm, .slice (some ⟨b, o, none⟩) la.length ca, .slice ar lr.length cr] 31)))
      obtain ⟨f0, f1, f2, f3, f4⟩ := HF.out
      clear hl hf hz hgb HF
      have HT := Lib.hid plain
      clear plain HR hrf
      go_enter Try.func22, Try.ntmps22
      go_wp2_with (first | (go_at_call 22; refine (ih _ _ la[0] (HL.out _ ((Below.refl _ _).alloc (Nat.le_refl _) _)) hX.out).mono ?_; rintro e w2 ⟨rfl, hb2⟩; obtain ⟨-, hb3⟩ := alloc_known hb2))
      go_ret
      exact HT.out _ HX.out _ hb3
    · have e0 : ((la.length : Int) == 0) = true := by rw [beq_iff_eq]; omega
      have HX := Lib.hid (show (⟨#[91, 93]⟩ : ByteArray) = textT (.mk 6 p nm la lr) by
        rw [textT]
        have : la = [] := List.length_eq_zero_iff.1 (by omega)
        subst this
        show _ = _ ++ headT []
        rw [headT, ba_nil])
      have HT := Lib.hid plain
      clear ih plain HA HR haf hrf
      go_enter Try.func22, Try.ntmps22
      go_wp2_with fail
      go_ret
      exact HT.out _ HX.out _ ((Below.refl _ _).alloc (Nat.le_refl _) _)
  by_cases k7 : kd = 7
  · subst k7
    have hj : (joinB (textL la)).size ≤ 1000000000 := by
      have h1 := textL_le la
      unfold joinB
      rw [size_mk]
      exact Nat.le_trans (join2_le _ _ h1) hbla
    have hbk := bulk_len la
    have hln : (textL la).length = la.length := by rw [textL_map, List.length_map]
    have HT := Lib.hid plain
    have HIH := Lib.hid ih
    have hj2 := Lib.hid (show (joinB (textL la)).size ≤ 10000000000 ∧ (textL la).length ≤ 10000000000 by omega)
    clear plain ih hln
    go_enter Try.func22, Try.ntmps22
    go_wp2_with (first | (go_at_call 47; refine (each47_any d _ _ la (HA.out.below ((Below.refl _ _).alloc (Nat.le_refl _) _)) hbla HIH.out).mono ?_; rintro e w2 ⟨u, rfl, hown, hb2⟩; have HO := Lib.hid hown; have HB2 := Lib.hid hb2; clear hown hb2) | (go_at_call 46; refine (join_own _ _ _ (textL la) HO.out hj2.out.1 hj2.out.2).mono ?_; rintro e w3 ⟨rfl, hb3⟩; refine Hid.out ?_))
    refine Lib.hid ?_
    obtain ⟨hk, hbw⟩ := alloc_known HB2.out
    have hlt : w.heap.size < w2.heap.size := (Array.getElem?_eq_some_iff.1 hk).1
    have hk3 := (hb3.block _ hlt).trans hk
    have c4 : w3.cell? ⟨w.heap.size, 4, none⟩ = some (.slice ar lr.length cr) := by simp [World.cell?, hk3]
    have HB := Lib.hid (hbw.trans (hb3.mono (Nat.le_of_lt hlt)))
    clear hk hbw hk3 hb3 HO HB2
    by_cases hl0 : 0 < lr.length
    · obtain ⟨b, o, rfl⟩ := hrf hl0
      obtain ⟨x0, x1, x2, x3, x4, hl, hf⟩ := HR.out.get 0 lr[0] (by simp [hl0])
      rw [Nat.zero_mul, Nat.add_zero] at hf
      have hgb := bulk_get lr 0 hl0
      have HX := Lib.hid (show (⟨#[102, 117, 110, 99, 40]⟩ : ByteArray) ++ joinB (textL la) ++ ⟨#[41]⟩ ++ (⟨#[32]⟩ ++ textT lr[0]) = textT (.mk 7 p nm la lr) by rw [← (head_at lr hl0).2, textT]; rfl)
      have hz := text_le lr[0]
      have hlr : (0 : Int) < lr.length := by omega
      have hsz : (textT lr[0]).size ≤ 1000000000 := by omega
      have hX := Lib.hid (show bulkT lr[0] ≤ 1000000000 by omega)
      have HL := Lib.hid (fun w' (hb : Below w.heap.size w w') => Lies.below hb _ _ _ hl)
      obtain ⟨f0, f1, f2, f3, f4⟩ := hf.below HB.out
      clear hl hf hz hgb
      go_wp2_with (first | (go_at_call 22; refine (HIH.out _ _ lr[0] (HL.out _ HB.out) hX.out).mono ?_; rintro e w4 ⟨rfl, hb4⟩))
      go_ret
      exact HT.out _ HX.out _ (HB.out.trans (hb4.mono HB.out.size))
    · have hlr : ¬ (0 : Int) < lr.length := by omega
      have HX := Lib.hid (show (⟨#[102, 117, 110, 99, 40]⟩ : ByteArray) ++ joinB (textL la) ++ ⟨#[41]⟩ = textT (.mk 7 p nm la lr) by
        rw [textT]
        have : lr = [] := List.length_eq_zero_iff.1 (by omega)
        subst this
        show _ = _ ++ resT []
        rw [resT, ba_nil])
      go_wp2_with fail
      go_ret
      exact HT.out _ HX.out _ HB.out
  · have n0 := beq_no (k := kd) (c := 0) (fun h => k0 (by simp [h]))
    have n1 := beq_no (k := kd) (c := 1) (fun h => k0 (by simp [h]))
    have n2 := beq_no (k := kd) (c := 2) (fun h => k0 (by simp [h]))
    have n3 := beq_no (k := kd) (c := 3) (fun h => k0 (by simp [h]))
    have n4 := beq_no (k := kd) (c := 4) (fun h => k0 (by simp [h]))
    have n5 := beq_no (k := kd) (c := 5) (fun h => k0 (by simp [h]))
    have n8 := beq_no (k := kd) (c := 8) (fun h => k0 (by simp [h]))
    have n9 := beq_no (k := kd) (c := 9) (fun h => k0 (by simp [h]))
    have n6 := beq_no k6
    have n7 := beq_no k7
    have HX := Lib.hid (show (⟨#[]⟩ : ByteArray) = textT (.mk kd p nm la lr) by
      simp only [not_or] at k0
      obtain ⟨g0, g1, g2, g3, g4, g5, g8, g9⟩ := k0
      rw [textT, if_neg g0, if_neg g1, if_neg g2, if_neg g3, if_neg g4, if_neg g5, if_neg g8, if_neg g9, if_neg k6, if_neg k7])
    have HT := Lib.hid plain
    clear ih plain HA HR haf hrf k0 k6 k7
    go_enter Try.func22, Try.ntmps22
    go_wp2_with fail
    go_ret
    exact HT.out _ HX.out _ ((Below.refl _ _).alloc (Nat.le_refl _) _)
end Go.Proofs.Ytcelpmojhjnggaa
