/- Interfaces. -/
import Derived.Test.YtcelpmojhjnggaaW0
import Derived.BigRegion
import Derived.Deep.Cut
import Derived.Deep.DeepCutAuto
namespace Go.Proofs.Ytcelpmojhjnggaa
open Go Go.RowKit Go.Sort Go.Deep KindsP
set_option maxHeartbeats 4000000
set_option maxRecDepth 100000

def faceD (us : List Unt) (k : Int) (p n : ByteArray) : Dcl := if k = 8 then (findU us p n).getD zD else zD
def faceOk (us : List Unt) (k : Int) (p n : ByteArray) : Bool := (k == 8) && ((findU us p n).getD zD).kind == 4
def FacePost (w0 w : World) (d : Nat) (us : List Unt) (k : Int) (p n : ByteArray) (e : Ending) (w' : World) : Prop :=
  Below w.heap.size w w' ∧ ∃ (kd : Int) (nm of : ByteArray) (vl x0 : Int) (x1 x2 : ByteArray) (x3 : Option Addr) (x4 x5 : Nat) (x6 : Option Addr) (x7 x8 : Nat) (xf : Option Addr) (nf cf : Nat),
    e = .returned (.tuple #[.agg #[.int .i64 kd, .string nm, .string of, .int .i64 vl, .int .i64 x0, .string x1, .string x2, .slice x3 x4 x5, .slice x6 x7 x8, .slice xf nf cf], .bool (faceOk us k p n)]) ∧ LiesD w0 (d + 1) [.int .i64 kd, .string nm, .string of, .int .i64 vl, .int .i64 x0, .string x1, .string x2, .slice x3 x4 x5, .slice x6 x7 x8, .slice xf nf cf] (faceD us k p n)
theorem liesD_kind {w : World} {d : Nat} {kd : Int} {l : List Value} {x : Dcl} (h : LiesD w d (.int .i64 kd :: l) x) : x.kind = kd := by
  obtain ⟨_, _, _, _, _, _, e, _⟩ := h
  simp only [List.cons.injEq, Value.int.injEq, true_and] at e
  exact e.1.symm
theorem face_any (d : Nat) (w0 w : World) (v : Value) (us : List Unt) (k : Int) (p n : ByteArray) (a1 a2 : Option Addr) (n1 c1 n2 c2 : Nat) (h : RowG 4 (LiesU w0 d) w0 v us) (hb0 : Below w0.heap.size w0 w) :
    Calls Try.prog 52 #[v, .agg #[.int .i64 k, .string p, .string n, .slice a1 n1 c1, .slice a2 n2 c2]] w (FacePost w0 w d us k p n) := by
  have hb2 := alloc2_below w (.cells #[.int .i64 k, .string p, .string n, .slice a1 n1 c1, .slice a2 n2 c2] 31) (.cells #[.int .i64 0, .string ⟨#[]⟩, .string ⟨#[]⟩, .int .i64 0, .int .i64 0, .string ⟨#[]⟩, .string ⟨#[]⟩, .slice none 0 0, .slice none 0 0, .slice none 0 0] 41)
  by_cases hk8 : k = 8
  · subst hk8
    have HF := Lib.hid (kfind_any d w0 ((w.alloc (.cells #[.int .i64 8, .string p, .string n, .slice a1 n1 c1, .slice a2 n2 c2] 31)).alloc (.cells #[.int .i64 0, .string ⟨#[]⟩, .string ⟨#[]⟩, .int .i64 0, .int .i64 0, .string ⟨#[]⟩, .string ⟨#[]⟩, .slice none 0 0, .slice none 0 0, .slice none 0 0] 41)) v us p n h (hb0.trans (hb2.mono hb0.size)))
    obtain ⟨a, c, rfl, _⟩ := h.form
    have H0 := Lib.hid hb0
    have HD1 : Hid (faceD us 8 p n = (findU us p n).getD zD) := Lib.hid rfl
    have HD2 : Hid (faceOk us 8 p n = (((findU us p n).getD zD).kind == 4)) := Lib.hid (by unfold faceOk; simp)
    clear h hb0 hb2
    go_enter Try.func52, Try.ntmps52
    go_wp2_with (first | (go_at_call 25; refine HF.out.mono ?_; rintro e w3 hp; obtain ⟨hb3, kd, nm, of, vl, x0, x1, x2, x3, x4, x5, x6, x7, x8, xf, nf, cf, rfl, hl⟩ := find_vals hp; refine Hid.out ?_))
    refine Lib.hid ?_
    obtain ⟨_, hk1, hbw⟩ := alloc_known2 hb3
    have hkd := liesD_kind hl
    generalize findU us p n = r at *
    have d0 : w3.cell? ⟨w.heap.size + 1, 0, none⟩ = some (.int .i64 0) := (cell_of_row _ _ 0 _ _ _ hk1).trans rfl
    have d1 : w3.cell? ⟨w.heap.size + 1, 1, none⟩ = some (.string ⟨#[]⟩) := (cell_of_row _ _ 1 _ _ _ hk1).trans rfl
    have d2 : w3.cell? ⟨w.heap.size + 1, 2, none⟩ = some (.string ⟨#[]⟩) := (cell_of_row _ _ 2 _ _ _ hk1).trans rfl
    have d3 : w3.cell? ⟨w.heap.size + 1, 3, none⟩ = some (.int .i64 0) := (cell_of_row _ _ 3 _ _ _ hk1).trans rfl
    have d4 : w3.cell? ⟨w.heap.size + 1, 4, none⟩ = some (.int .i64 0) := (cell_of_row _ _ 4 _ _ _ hk1).trans rfl
    have d5 : w3.cell? ⟨w.heap.size + 1, 5, none⟩ = some (.string ⟨#[]⟩) := (cell_of_row _ _ 5 _ _ _ hk1).trans rfl
    have d6 : w3.cell? ⟨w.heap.size + 1, 6, none⟩ = some (.string ⟨#[]⟩) := (cell_of_row _ _ 6 _ _ _ hk1).trans rfl
    have d7 : w3.cell? ⟨w.heap.size + 1, 7, none⟩ = some (.slice none 0 0) := (cell_of_row _ _ 7 _ _ _ hk1).trans rfl
    have d8 : w3.cell? ⟨w.heap.size + 1, 8, none⟩ = some (.slice none 0 0) := (cell_of_row _ _ 8 _ _ _ hk1).trans rfl
    have d9 : w3.cell? ⟨w.heap.size + 1, 9, none⟩ = some (.slice none 0 0) := (cell_of_row _ _ 9 _ _ _ hk1).trans rfl
    have fz : ∀ i, w3.frozen? ⟨w.heap.size + 1, i, none⟩ = false := fun i => by simp [World.frozen?, hk1]
    have hsz : w.heap.size + 1 < w3.heap.size := (Array.getElem?_eq_some_iff.1 hk1).1
    have HW := Lib.hid hbw
    have HL := Lib.hid hl
    have HP : Hid (∀ b e, e = (kd == 4) → FacePost w0 w d us 8 p n (.returned (.tuple #[.agg #[.int .i64 kd, .string nm, .string of, .int .i64 vl, .int .i64 x0, .string x1, .string x2, .slice x3 x4 x5, .slice x6 x7 x8, .slice xf nf cf], .bool e])) b = (Below w.heap.size w b)) := Lib.hid (fun b e he => by
      rw [eq_iff_iff]
      constructor
      · exact fun h => h.1
      · intro hb
        refine ⟨hb, kd, nm, of, vl, x0, x1, x2, x3, x4, x5, x6, x7, x8, xf, nf, cf, ?_, ?_⟩
        · rw [HD2.out, hkd, he]
        · rw [HD1.out]; exact HL.out)
    have HKZ : Hid (r = none → kd = 0) := Lib.hid (fun h => by rw [h] at hkd; exact hkd.symm)
    clear hp hb3 hk1 hbw hl hkd HF HD1 HD2
    cases r with
    | none =>
      obtain rfl := HKZ.out rfl
      go_wp2_with fail
      go_region
      go_wp2_with fail
      refine bodyPost_ret (v := .tuple #[.agg #[.int .i64 0, .string nm, .string of, .int .i64 vl, .int .i64 x0, .string x1, .string x2, .slice x3 x4 x5, .slice x6 x7 x8, .slice xf nf cf], .bool false]) (by simp [results, Try.results52, go_sem, hsz, d0, d1, d2, d3, d4, d5, d6, d7, d8, d9]) rfl ?_
      rw [HP.out _ false (by decide)]
      exact ((below_set10 HW.out (Nat.le_succ _) _ _ _ _ _ _ _ _ _ _).alloc (by simp; omega) _).drew
    | some x =>
      cases e4 : (kd == 4)
      all_goals
        go_wp2_with fail
        go_region
        go_wp2_with fail
        refine bodyPost_ret (v := .tuple #[.agg #[.int .i64 kd, .string nm, .string of, .int .i64 vl, .int .i64 x0, .string x1, .string x2, .slice x3 x4 x5, .slice x6 x7 x8, .slice xf nf cf], .bool (kd == 4)]) (by simp [results, Try.results52, go_sem, hsz, e4, d0, d1, d2, d3, d4, d5, d6, d7, d8, d9]) rfl ?_
        rw [HP.out _ _ rfl]
        exact ((below_set10 HW.out (Nat.le_succ _) _ _ _ _ _ _ _ _ _ _).alloc (by simp; omega) _).drew
  · have hkb : (k != 8) = true := by simpa using hk8
    obtain ⟨a, c, rfl, _⟩ := h.form
    have HB2 := Lib.hid hb2
    have HD1 : Hid (faceD us k p n = zD) := Lib.hid (by unfold faceD; rw [if_neg hk8])
    have HD2 : Hid (faceOk us k p n = false) := Lib.hid (by unfold faceOk; simp [hk8])
    clear h hb0 hb2 hk8
    go_enter Try.func52, Try.ntmps52
    go_wp2_with fail
    refine bodyPost_ret (v := .tuple #[.agg #[.int .i64 0, .string ⟨#[]⟩, .string ⟨#[]⟩, .int .i64 0, .int .i64 0, .string ⟨#[]⟩, .string ⟨#[]⟩, .slice none 0 0, .slice none 0 0, .slice none 0 0], .bool false]) (by simp [results, Try.results52, go_sem]) rfl ?_
    refine ⟨HB2.out, 0, ⟨#[]⟩, ⟨#[]⟩, 0, 0, ⟨#[]⟩, ⟨#[]⟩, none, 0, 0, none, 0, 0, none, 0, 0, ?_, ?_⟩
    · rw [HD2.out]
    · rw [HD1.out]; exact zD_lies w0 d
end Go.Proofs.Ytcelpmojhjnggaa
