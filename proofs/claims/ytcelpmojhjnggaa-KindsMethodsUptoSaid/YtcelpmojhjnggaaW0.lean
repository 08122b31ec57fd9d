/- The types of names; interfaces. -/
import Derived.Test.YtcelpmojhjnggaaU8
import Derived.Test.YtcelpmojhjnggaaU4
import Derived.BigRegion
namespace Go.Proofs.Ytcelpmojhjnggaa
open Go Go.RowKit Go.Sort KindsP
set_option maxHeartbeats 4000000
set_option maxRecDepth 100000

theorem below_set5 {w w' : World} {B b : Nat} (h : Below B w w') (hb : B ≤ b) (v0 v1 v2 v3 v4 : Value) : Below B w (((((w'.setCell ⟨b, 0, none⟩ v0).setCell ⟨b, 1, none⟩ v1).setCell ⟨b, 2, none⟩ v2).setCell ⟨b, 3, none⟩ v3).setCell ⟨b, 4, none⟩ v4) := (((((h.setCell (p := ⟨b, 0, none⟩) hb _).setCell (p := ⟨b, 1, none⟩) hb _).setCell (p := ⟨b, 2, none⟩) hb _).setCell (p := ⟨b, 3, none⟩) hb _).setCell (p := ⟨b, 4, none⟩) hb _)
/-- the first field of a name -/
def findF : List Fld → ByteArray → Option Fld
  | [], _ => none
  | x :: l, n => if (x.name == n) = true then some x else findF l n
theorem findF_at (l : List Fld) (n : ByteArray) (k : Nat) (h : k < l.length) : findF (l.drop k) n = if (l[k].name == n) = true then some l[k] else findF (l.drop (k + 1)) n := by
  rw [List.drop_eq_getElem_cons h, findF]
def tyO : Option Fld → Ty
  | none => zTy0
  | some x => x.ty
def TyPost (w0 w : World) (d : Nat) (t : Ty) (e : Ending) (w' : World) : Prop :=
  Below w.heap.size w w' ∧ ∃ (x0 : Int) (x1 x2 : ByteArray) (x3 : Option Addr) (x4 x5 : Nat) (x6 : Option Addr) (x7 x8 : Nat), e = .returned (.agg #[.int .i64 x0, .string x1, .string x2, .slice x3 x4 x5, .slice x6 x7 x8]) ∧ Lies w0 (d + 1) (.agg #[.int .i64 x0, .string x1, .string x2, .slice x3 x4 x5, .slice x6 x7 x8]) t
theorem fields_some (d : Nat) (w : World) (v : Value) (l : List Fld) (h : RowG 6 (LiesF w d) w v l) : Calls Try.prog 28 #[v] w (SomeBool w) := by
  obtain ⟨a, c, rfl, hcc, hcm, hf⟩ := h.form
  have hll := Nat.le_trans hcc hcm
  unfold maxLen at hll
  have HA := Lib.hid h
  clear h
  go_enter Try.func28, Try.ntmps28
  go_wp2_with fail
  go_loopw [3, 4] (fun nv iv wr => ∃ (k : Nat) (n : Int), k ≤ l.length ∧ iv = .int .i64 k ∧ nv = .int .i64 n ∧ Below w.heap.size w wr) (fun _ iv _ => l.length - (intOf iv).toNat)
  case atStart => exact ⟨0, _, by omega, rfl, rfl, Below.refl _ _⟩
  case round =>
    obtain ⟨k, n, hk, rfl, rfl, hb⟩ := hrel
    have HB := Lib.hid hb
    clear hb
    by_cases hc : k < l.length ∧ n ≤ 400
    · obtain ⟨hlt, hnm⟩ := hc
      obtain ⟨b, o, rfl⟩ := hf (by omega)
      obtain ⟨cs, ⟨z0, z1, z2, z3, z4, rfl, hty⟩, hcs⟩ := HA.out.get k l[k] (by simp)
      have g1 := cell_on HB.out (hcs 1 _ rfl)
      have g2 := cell_on HB.out (hcs 2 _ rfl)
      have g3 := cell_on HB.out (hcs 3 _ rfl)
      have g4 := cell_on HB.out (hcs 4 _ rfl)
      have g5 := cell_on HB.out (hcs 5 _ rfl)
      have HCT := Lib.hid (fun mm => count_some d wr _ _ mm (Lies.below HB.out _ _ _ hty))
      clear hcs hty
      go_wp2_with (first | (go_at_call 37; refine (HCT.out _).mono ?_; rintro e w2 ⟨⟨c1, rfl⟩, hb2⟩; have HB2 := Lib.hid (HB.out.trans (hb2.mono HB.out.size)); clear hb2))
      exact ⟨⟨k + 1, _, by omega, by go_num, rfl, HB2.out⟩, by simp [intOf]; omega⟩
    · obtain hc | ⟨hc, hd⟩ : ¬ k < l.length ∨ (k < l.length ∧ ¬ n ≤ 400) := by omega
      all_goals
        go_wp2_with fail
        go_ret
        exact ⟨⟨_, rfl⟩, HB.out⟩
theorem must_any (d : Nat) (w0 w : World) (v : Value) (l : List Fld) (n : ByteArray) (h : RowG 6 (LiesF w0 d) w0 v l) (hb0 : Below w0.heap.size w0 w) : Calls Try.prog 51 #[v, .string n] w (TyPost w0 w d (tyO (findF l n))) := by
  obtain ⟨a, c, rfl, hcc, hcm, hf⟩ := h.form
  have hll := Nat.le_trans hcc hcm
  unfold maxLen at hll
  have HA := Lib.hid h
  have H0 := Lib.hid hb0
  clear h hb0
  obtain ⟨W1, hQ⟩ : ∃ W1, W1 = w.alloc (.cells #[.int .i64 0, .string ⟨#[]⟩, .string ⟨#[]⟩, .slice none 0 0, .slice none 0 0] 31) := ⟨_, rfl⟩
  have HB1 := Lib.hid (show W1.heap[w.heap.size]? = some (.cells #[.int .i64 0, .string ⟨#[]⟩, .string ⟨#[]⟩, .slice none 0 0, .slice none 0 0] 31) by rw [hQ]; exact heap_alloc_new w _)
  have HW1 := Lib.hid (show Below w.heap.size w W1 by rw [hQ]; exact (Below.refl _ _).alloc (Nat.le_refl _) _)
  have HS1 := Lib.hid (show w.heap.size + 1 ≤ W1.heap.size by rw [hQ]; simp)
  have HBS : Hid (Below (w.heap.size + 1) W1 (w.alloc (.cells #[.int .i64 0, .string ⟨#[]⟩, .string ⟨#[]⟩, .slice none 0 0, .slice none 0 0] 31))) := Lib.hid (by rw [hQ]; exact Below.refl _ _)
  clear hQ
  go_enter Try.func51, Try.ntmps51
  go_wp2_with fail
  go_loopw [9] (fun iv wr => ∃ (k : Nat), k ≤ l.length ∧ iv = .int .i64 k ∧ Below (w.heap.size + 1) W1 wr ∧ Hid (findF l n = findF (l.drop k) n)) (fun iv _ => l.length - (intOf iv).toNat)
  case atStart => exact ⟨0, by omega, rfl, HBS.out, rfl⟩
  case round =>
    obtain ⟨k, hk, rfl, hb, H⟩ := hrel
    have hbox : wr.heap[w.heap.size]? = _ := (hb.block w.heap.size (by omega)).trans HB1.out
    have d0 : wr.cell? ⟨w.heap.size, 0, none⟩ = some (.int .i64 0) := by simp [World.cell?, hbox]
    have d1 : wr.cell? ⟨w.heap.size, 1, none⟩ = some (.string ⟨#[]⟩) := by simp [World.cell?, hbox]
    have d2 : wr.cell? ⟨w.heap.size, 2, none⟩ = some (.string ⟨#[]⟩) := by simp [World.cell?, hbox]
    have d3 : wr.cell? ⟨w.heap.size, 3, none⟩ = some (.slice none 0 0) := by simp [World.cell?, hbox]
    have d4 : wr.cell? ⟨w.heap.size, 4, none⟩ = some (.slice none 0 0) := by simp [World.cell?, hbox]
    have fz : ∀ i, wr.frozen? ⟨w.heap.size, i, none⟩ = false := fun i => by simp [World.frozen?, hbox]
    have hsz : w.heap.size < wr.heap.size := Nat.le_trans HS1.out hb.size
    have HB := Lib.hid hb
    have HW := Lib.hid (HW1.out.trans (hb.mono (by omega)))
    clear hb hbox
    by_cases hlt : k < l.length
    · obtain ⟨b, o, rfl⟩ := hf (by omega)
      obtain ⟨cs, ⟨z0, z1, z2, z3, z4, rfl, hty⟩, hcs⟩ := HA.out.get k l[k] (by simp)
      have HE := Lib.hid (findF_at l n k hlt)
      obtain ⟨x, hx⟩ : ∃ x, l[k] = x := ⟨_, rfl⟩
      rw [hx] at HE hty hcs
      obtain ⟨nm, t⟩ := x
      dsimp only at HE hty hcs
      obtain ⟨x0, x1, x2, x3, x4, x5, x6, x7, x8, rfl, rfl, rfl, rfl, rfl⟩ := lies_form hty
      have HT := Lib.hid hty
      have hb00 := H0.out.trans (HW.out.mono H0.out.size)
      have g0 := cell_on hb00 (hcs 0 _ rfl)
      rw [Nat.add_zero] at g0
      have g1 := cell_on hb00 (hcs 1 _ rfl)
      have g2 := cell_on hb00 (hcs 2 _ rfl)
      have g3 := cell_on hb00 (hcs 3 _ rfl)
      have g4 := cell_on hb00 (hcs 4 _ rfl)
      have g5 := cell_on hb00 (hcs 5 _ rfl)
      clear hcs hty hx hb00
      cases hp : (nm == n)
      · have HR := Lib.hid (show findF l n = findF (l.drop (k + 1)) n by rw [H.out, HE.out, if_neg (by rw [hp]; simp)])
        have hp' : (nm.toList == n.toList) = false := by simpa using list_eq hp
        clear H HE hp
        go_wp2_with fail
        exact ⟨⟨k + 1, by omega, by go_num, HB.out.alloc hsz _, HR⟩, by simp [intOf]; omega⟩
      · have HR := Lib.hid (show findF l n = some ⟨nm, t⟩ by rw [H.out, HE.out, if_pos hp])
        have hp' := list_eq' hp
        clear H HE hp
        go_wp2_with fail
        refine bodyPost_ret (v := .agg #[.int .i64 x0, .string x1, .string x2, .slice x3 x4 x5, .slice x6 x7 x8]) (by simp [results, Try.results51, go_sem, hsz, d0, d1, d2, d3, d4]) rfl ?_
        rw [HR.out]
        have hbf := fun v0 v1 v2 v3 v4 => below_set5 HW.out (Nat.le_refl _) v0 v1 v2 v3 v4
        refine (fun (hz : Below w.heap.size w _) => ⟨hz, _, _, _, _, _, _, _, _, _, rfl, HT.out.le (Nat.le_succ _)⟩) ?_
        exact (hbf _ _ _ _ _).alloc (by simp; omega) _
    · have HR := Lib.hid (show findF l n = none by rw [H.out, List.drop_eq_nil_of_le (by omega), findF])
      clear H
      go_wp2_with fail
      refine bodyPost_ret (v := .agg #[.int .i64 0, .string ⟨#[]⟩, .string ⟨#[]⟩, .slice none 0 0, .slice none 0 0]) (by simp [results, Try.results51, go_sem, d0, d1, d2, d3, d4]) rfl ?_
      rw [HR.out]
      exact ⟨below_set5 HW.out (Nat.le_refl _) _ _ _ _ _, _, _, _, _, _, _, _, _, _, rfl, ⟨_, _, rfl, ⟨none, 0, rfl, by simp, by unfold maxLen; omega, .inl rfl⟩, ⟨none, 0, rfl, by simp, by unfold maxLen; omega, .inl rfl⟩⟩⟩
end Go.Proofs.Ytcelpmojhjnggaa
