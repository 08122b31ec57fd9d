/- Interfaces. -/
import Derived.Test.YtcelpmojhjnggaaI23
import Derived.BigRegion
import Derived.Deep.Cut
import Derived.Deep.DeepCutAuto
import Derived.Deep.RegionHeld3
namespace Go.Proofs.Ytcelpmojhjnggaa
open Go Go.RowKit Go.Sort Go.Deep KindsP
set_option maxHeartbeats 4000000
set_option maxRecDepth 100000

def faceD (us : List Unt) (k : Int) (p n : ByteArray) : Dcl := if k = 8 then (findU us p n).getD zD else zD
def faceOk (us : List Unt) (k : Int) (p n : ByteArray) : Bool := (k == 8) && ((findU us p n).getD zD).kind == 4
def FacePost (w0 w : World) (d : Nat) (us : List Unt) (k : Int) (p n : ByteArray) (e : Ending) (w' : World) : Prop :=
  Below w.heap.size w w' ∧ ∃ (kd : Int) (nm of : ByteArray) (vl x0 : Int) (x1 x2 : ByteArray) (x3 : Option Addr) (x4 x5 : Nat) (x6 : Option Addr) (x7 x8 : Nat) (xf : Option Addr) (nf cf : Nat),
    e = .returned (.tuple #[.agg #[.int .i64 kd, .string nm, .string of, .int .i64 vl, .int .i64 x0, .string x1, .string x2, .slice x3 x4 x5, .slice x6 x7 x8, .slice xf nf cf], .bool (faceOk us k p n)]) ∧ LiesD w0 (d + 1) [.int .i64 kd, .string nm, .string of, .int .i64 vl, .int .i64 x0, .string x1, .string x2, .slice x3 x4 x5, .slice x6 x7 x8, .slice xf nf cf] (faceD us k p n)
theorem liesD_kind {w : World} {d : Nat} {kd : Int} {l : List Value} {x : Dcl} (h : LiesD w d (.int .i64 kd :: l) x) : x.kind = kd := by
  obtain ⟨_, _, _, _, _, _, e, _⟩ := h
  simp only [List.cons.injEq, Value.int.injEq, true_and] at e
  exact e.1.symm
theorem face_any (d : Nat) (w0 w : World) (v : Value) (us : List Unt) (k : Int) (p n : ByteArray) (a1 a2 : Option Addr) (n1 c1 n2 c2 : Nat) (h : RowG 4 (LiesU w0 d) w0 v us) (hb0 : Below w0.heap.size w0 w) :
    Calls Try.prog 52 #[v, .agg #[.int .i64 k, .string p, .string n, .slice a1 n1 c1, .slice a2 n2 c2]] w (FacePost w0 w d us k p n) := by
  have hb2 := alloc2_below w (.cells #[.int .i64 k, .string p, .string n, .slice a1 n1 c1, .slice a2 n2 c2] 31) (.cells #[.int .i64 0, .string ⟨#[]⟩, .string ⟨#[]⟩, .int .i64 0, .int .i64 0, .string ⟨#[]⟩, .string ⟨#[]⟩, .slice none 0 0, .slice none 0 0, .slice none 0 0] 41)
  by_cases hk8 : k = 8
  · subst hk8
    have HF := Lib.hid (kfind_any d w0 ((w.alloc (.cells #[.int .i64 8, .string p, .string n, .slice a1 n1 c1, .slice a2 n2 c2] 31)).alloc (.cells #[.int .i64 0, .string ⟨#[]⟩, .string ⟨#[]⟩, .int .i64 0, .int .i64 0, .string ⟨#[]⟩, .string ⟨#[]⟩, .slice none 0 0, .slice none 0 0, .slice none 0 0] 41)) v us p n h (hb0.trans (hb2.mono hb0.size)))
    obtain ⟨a, c, rfl, _⟩ := h.form
    have H0 := Lib.hid hb0
    have HD1 : Hid (faceD us 8 p n = (findU us p n).getD zD) := Lib.hid rfl
    have HD2 : Hid (faceOk us 8 p n = (((findU us p n).getD zD).kind == 4)) := Lib.hid (by unfold faceOk; simp)
    clear h hb0 hb2
    go_enter Try.func52, Try.ntmps52
    go_wp2_with (first | (go_at_call 25; refine HF.out.mono ?_; rintro e w3 hp; obtain ⟨hb3, kd, nm, of, vl, x0, x1, x2, x3, x4, x5, x6, x7, x8, xf, nf, cf, rfl, hl⟩ := find_vals hp; refine Hid.out ?_))
    refine Lib.hid ?_
    obtain ⟨_, hk1, hbw⟩ := alloc_known2 hb3
    have hkd := liesD_kind hl
    generalize findU us p n = r at *
    have d0 : w3.cell? ⟨w.heap.size + 1, 0, none⟩ = some (.int .i64 0) := (cell_of_row _ _ 0 _ _ _ hk1).trans rfl
    have d1 : w3.cell? ⟨w.heap.size + 1, 1, none⟩ = some (.string ⟨#[]⟩) := (cell_of_row _ _ 1 _ _ _ hk1).trans rfl
    have d2 : w3.cell? ⟨w.heap.size + 1, 2, none⟩ = some (.string ⟨#[]⟩) := (cell_of_row _ _ 2 _ _ _ hk1).trans rfl
    have d3 : w3.cell? ⟨w.heap.size + 1, 3, none⟩ = some (.int .i64 0) := (cell_of_row _ _ 3 _ _ _ hk1).trans rfl
    have d4 : w3.cell? ⟨w.heap.size + 1, 4, none⟩ = some (.int .i64 0) := (cell_of_row _ _ 4 _ _ _ hk1).trans rfl
    have d5 : w3.cell? ⟨w.heap.size + 1, 5, none⟩ = some (.string ⟨#[]⟩) := (cell_of_row _ _ 5 _ _ _ hk1).trans rfl
    have d6 : w3.cell? ⟨w.heap.size + 1, 6, none⟩ = some (.string ⟨#[]⟩) := (cell_of_row _ _ 6 _ _ _ hk1).trans rfl
    have d7 : w3.cell? ⟨w.heap.size + 1, 7, none⟩ = some (.slice none 0 0) := (cell_of_row _ _ 7 _ _ _ hk1).trans rfl
    have d8 : w3.cell? ⟨w.heap.size + 1, 8, none⟩ = some (.slice none 0 0) := (cell_of_row _ _ 8 _ _ _ hk1).trans rfl
    have d9 : w3.cell? ⟨w.heap.size + 1, 9, none⟩ = some (.slice none 0 0) := (cell_of_row _ _ 9 _ _ _ hk1).trans rfl
    have fz : ∀ i, w3.frozen? ⟨w.heap.size + 1, i, none⟩ = false := fun i => by simp [World.frozen?, hk1]
    have hsz : w.heap.size + 1 < w3.heap.size := (Array.getElem?_eq_some_iff.1 hk1).1
    have HW := Lib.hid hbw
    have HL := Lib.hid hl
    have HP : Hid (∀ b e, e = (kd == 4) → FacePost w0 w d us 8 p n (.returned (.tuple #[.agg #[.int .i64 kd, .string nm, .string of, .int .i64 vl, .int .i64 x0, .string x1, .string x2, .slice x3 x4 x5, .slice x6 x7 x8, .slice xf nf cf], .bool e])) b = (Below w.heap.size w b)) := Lib.hid (fun b e he => by
      rw [eq_iff_iff]
      constructor
      · exact fun h => h.1
      · intro hb
        refine ⟨hb, kd, nm, of, vl, x0, x1, x2, x3, x4, x5, x6, x7, x8, xf, nf, cf, ?_, ?_⟩
        · rw [HD2.out, hkd, he]
        · rw [HD1.out]; exact HL.out)
    have HKZ : Hid (r = none → kd = 0) := Lib.hid (fun h => by rw [h] at hkd; exact hkd.symm)
    clear hp hb3 hk1 hbw hl hkd HF HD1 HD2
    cases r with
    | none =>
      obtain rfl := HKZ.out rfl
      go_wp2_with fail
      go_region
      go_wp2_with fail
      refine bodyPost_ret (v := .tuple #[.agg #[.int .i64 0, .string nm, .string of, .int .i64 vl, .int .i64 x0, .string x1, .string x2, .slice x3 x4 x5, .slice x6 x7 x8, .slice xf nf cf], .bool false]) (by simp [results, Try.results52, go_sem, hsz, d0, d1, d2, d3, d4, d5, d6, d7, d8, d9]) rfl ?_
      rw [HP.out _ false (by decide)]
      exact ((below_set10 HW.out (Nat.le_succ _) _ _ _ _ _ _ _ _ _ _).alloc (by simp; omega) _).drew
    | some x =>
      cases e4 : (kd == 4)
      all_goals
        go_wp2_with fail
        go_region
        go_wp2_with fail
        refine bodyPost_ret (v := .tuple #[.agg #[.int .i64 kd, .string nm, .string of, .int .i64 vl, .int .i64 x0, .string x1, .string x2, .slice x3 x4 x5, .slice x6 x7 x8, .slice xf nf cf], .bool (kd == 4)]) (by simp [results, Try.results52, go_sem, hsz, e4, d0, d1, d2, d3, d4, d5, d6, d7, d8, d9]) rfl ?_
        rw [HP.out _ _ rfl]
        exact ((below_set10 HW.out (Nat.le_succ _) _ _ _ _ _ _ _ _ _ _).alloc (by simp; omega) _).drew
  · have hkb : (k != 8) = true := by simpa using hk8
    obtain ⟨a, c, rfl, _⟩ := h.form
    have HB2 := Lib.hid hb2
    have HD1 : Hid (faceD us k p n = zD) := Lib.hid (by unfold faceD; rw [if_neg hk8])
    have HD2 : Hid (faceOk us k p n = false) := Lib.hid (by unfold faceOk; simp [hk8])
    clear h hb0 hb2 hk8
    go_enter Try.func52, Try.ntmps52
    go_wp2_with fail
    refine bodyPost_ret (v := .tuple #[.agg #[.int .i64 0, .string ⟨#[]⟩, .string ⟨#[]⟩, .int .i64 0, .int .i64 0, .string ⟨#[]⟩, .string ⟨#[]⟩, .slice none 0 0, .slice none 0 0, .slice none 0 0], .bool false]) (by simp [results, Try.results52, go_sem]) rfl ?_
    refine ⟨HB2.out, 0, ⟨#[]⟩, ⟨#[]⟩, 0, 0, ⟨#[]⟩, ⟨#[]⟩, none, 0, 0, none, 0, 0, none, 0, 0, ?_, ?_⟩
    · rw [HD2.out]
    · rw [HD1.out]; exact zD_lies w0 d
end Go.Proofs.Ytcelpmojhjnggaa

/- The document's Methods. -/
namespace Go.Proofs.Ytcelpmojhjnggaa
open Go Go.RowKit Go.Sort Go.Deep KindsP
set_option maxHeartbeats 4000000
set_option maxRecDepth 100000

def Ty.pk : Ty → ByteArray | .mk _ p _ _ _ => p
def Ty.nm : Ty → ByteArray | .mk _ _ n _ _ => n
/-- the methods among declarations -/
def mOf (n : ByteArray) : List Dcl → List Fld
  | [] => []
  | x :: ds => if ((x.kind == 6) && (x.of == n)) = true then ⟨x.name, x.ty⟩ :: mOf n ds else mOf n ds
theorem mOf_at (n : ByteArray) (ds : List Dcl) (k : Nat) (h : k < ds.length) : mOf n (ds.drop k) = if ((ds[k].kind == 6) && (ds[k].of == n)) = true then ⟨ds[k].name, ds[k].ty⟩ :: mOf n (ds.drop (k + 1)) else mOf n (ds.drop (k + 1)) := by
  rw [List.drop_eq_getElem_cons h, mOf]
/-- the methods of a kind of type, as they are declared -/
def baseL (us : List Unt) (k : Int) (p n : ByteArray) : List Fld :=
  if k = 5 then mOf n (declsO (unitF us p)) else if k = 8 then (if (((findU us p n).getD zD).kind == 4) = true then ((findU us p n).getD zD).fields else []) else []
/-- the methods of a type, in order -/
def methL (us : List Unt) (vars : List Fld) (k : Int) (p n : ByteArray) : List Fld :=
  if k = 9 then (if Ty.kd (tyO (findF vars n)) = 8 then isort ltF (baseL us 8 (Ty.pk (tyO (findF vars n))) (Ty.nm (tyO (findF vars n)))) else []) else isort ltF (baseL us k p n)
def KnownIs (l : List Fld) (n : ByteArray) (i : Int) : Prop := match findF l n with
  | none => i = -1
  | some x => ∃ k : Nat, i = k ∧ l[k]? = some x
theorem OwnF.below {w0 w w' : World} {d B : Nat} {v : Value} {l : List Fld} (h : OwnF w0 d w B v l) (hb : Below w.heap.size w w') : OwnF w0 d w' B v l := by
  obtain ⟨cells, h1, h2⟩ := h
  exact ⟨cells, own_below h1 hb, h2⟩
theorem OwnF.base {w0 w : World} {d B B' : Nat} {v : Value} {l : List Fld} (h : OwnF w0 d w B v l) (hB : B' ≤ B) : OwnF w0 d w B' v l := by
  obtain ⟨cells, ⟨h1, h2⟩, h3⟩ := h
  refine ⟨cells, ⟨h1, ?_⟩, h3⟩
  rcases h2 with h2 | ⟨g, cap, cur, e1, e2, e3⟩
  · exact .inl h2
  · exact .inr ⟨g, cap, cur, e1, Nat.le_trans hB e2, e3⟩
theorem known60_any (d : Nat) (w0 w : World) (v : Value) (l : List Fld) (n : ByteArray) (h : RowG 6 (LiesF w0 d) w0 v l) (hb0 : Below w0.heap.size w0 w) : Calls Try.prog 60 #[v, .string n] w fun e w' => (∃ i, e = .returned (.int .i64 i) ∧ KnownIs l n i) ∧ w' = w := by
  obtain ⟨a, c, rfl, hcc, hcm, hf⟩ := h.form
  have hll := Nat.le_trans hcc hcm
  unfold maxLen at hll
  have HA := Lib.hid h
  have H0 := Lib.hid hb0
  clear h hb0
  go_enter Try.func60, Try.ntmps60
  go_wp2_with fail
  go_loopw [5] (fun iv wr => ∃ (k : Nat), k ≤ l.length ∧ iv = .int .i64 k ∧ wr = w ∧ Hid (findF l n = findF (l.drop k) n)) (fun iv _ => l.length - (intOf iv).toNat)
  case atStart => exact ⟨0, by omega, rfl, rfl, rfl⟩
  case round =>
    obtain ⟨k, hk, rfl, rfl, H⟩ := hrel
    by_cases hlt : k < l.length
    · obtain ⟨b, o, rfl⟩ := hf (by omega)
      obtain ⟨cs, ⟨z0, z1, z2, z3, z4, rfl, hty⟩, hcs⟩ := HA.out.get k l[k] (by simp)
      have HE := Lib.hid (findF_at l n k hlt)
      have HG := Lib.hid (show l[k]? = some l[k] by simp)
      obtain ⟨x, hx⟩ : ∃ x, l[k] = x := ⟨_, rfl⟩
      rw [hx] at HE hcs HG
      obtain ⟨nm, t⟩ := x
      dsimp only at HE hcs
      have g0 := cell_on H0.out (hcs 0 _ rfl)
      rw [Nat.add_zero] at g0
      clear hcs hty hx
      cases hp : (nm == n)
      · have HR := Lib.hid (show findF l n = findF (l.drop (k + 1)) n by rw [H.out, HE.out, if_neg (by rw [hp]; simp)])
        have hp' : (nm.toList == n.toList) = false := by simpa using list_eq hp
        clear H HE hp
        go_wp2_with fail
        exact ⟨⟨k + 1, by omega, by go_num, trivial, HR⟩, by simp [intOf]; omega⟩
      · have HR := Lib.hid (show findF l n = some ⟨nm, t⟩ by rw [H.out, HE.out, if_pos hp])
        have hp' := list_eq' hp
        clear H HE hp
        go_wp2_with fail
        go_ret
        refine ⟨⟨_, rfl, ?_⟩, rfl⟩
        unfold KnownIs
        rw [HR.out]
        exact ⟨k, rfl, HG.out⟩
    · have HR := Lib.hid (show findF l n = none by rw [H.out, List.drop_eq_nil_of_le (by omega), findF])
      clear H
      go_wp2_with fail
      go_ret
      refine ⟨⟨_, rfl, ?_⟩, rfl⟩
      unfold KnownIs
      rw [HR.out]
theorem rmeth_ptr (d : Nat) (w0 w : World) (v : Value) (us : List Unt) (av : Option Addr) (nv cv : Nat) (p n : ByteArray) (a1 a2 : Option Addr) (n1 c1 n2 c2 : Nat) (h : RowG 4 (LiesU w0 d) w0 v us) (hb0 : Below w0.heap.size w0 w) (hbd : (mOf n (declsO (unitF us p))).length ≤ 1000000) :
    Calls Try.prog 31 #[v, .slice av nv cv, .agg #[.int .i64 5, .string p, .string n, .slice a1 n1 c1, .slice a2 n2 c2]] w (PutPost w0 d w w.heap.size (isort ltF (mOf n (declsO (unitF us p))))) := by
  have HU := Lib.hid (runit_any d w0 (w.alloc (.cells #[.int .i64 5, .string p, .string n, .slice a1 n1 c1, .slice a2 n2 c2] 31)) v us p h (hb0.alloc hb0.size _))
  generalize hL : declsO (unitF us p) = ds at hbd ⊢
  have HDL := Lib.hid hL
  have HBD := Lib.hid hbd
  clear hL hbd
  obtain ⟨a, c, rfl, hcc, hcm, hf⟩ := h.form
  have hll := Nat.le_trans hcc hcm
  unfold maxLen at hll
  have HA := Lib.hid h
  have H0 := Lib.hid hb0
  have hw0w := hb0.size
  clear h hb0
  go_enter Try.func31, Try.ntmps31
  go_wp2_with (first | (go_at_call 50; refine HU.out.mono ?_; rintro e w2 ⟨⟨iu, rfl, hiu⟩, hw2⟩; have HW2 := Lib.hid hw2; clear hw2; refine Hid.out ?_))
  refine Lib.hid ?_
  have HBW : Hid (Below w.heap.size w w2) := Lib.hid (by rw [HW2.out]; exact (Below.refl _ _).alloc (Nat.le_refl _) _)
  have hbox : w2.heap[w.heap.size]? = some (.cells #[.int .i64 5, .string p, .string n, .slice a1 n1 c1, .slice a2 n2 c2] 31) := by rw [HW2.out]; exact heap_alloc_new w _
  have HBOX := Lib.hid hbox
  have hsz : w.heap.size < w2.heap.size := (Array.getElem?_eq_some_iff.1 hbox).1
  clear hbox HW2 HU
  unfold UnitIs at hiu
  cases hun : unitF us p with
  | none =>
    rw [hun] at hiu
    obtain rfl : iu = -1 := hiu
    have HNIL := Lib.hid (show ds = [] by rw [← HDL.out, hun]; rfl)
    clear hun
    go_wp2_with fail
    go_loopw [7, 9] (fun lv iv wr => lv = .slice none 0 0 ∧ iv = .int .i64 0 ∧ wr = w2) (fun _ _ _ => 0)
    case atStart => exact ⟨rfl, rfl, rfl⟩
    case round =>
      obtain ⟨rfl, rfl, rfl⟩ := hrel
      go_wp2_with fail
      go_ret
      refine ⟨HBW.out, _, rfl, ?_⟩
      rw [HNIL.out]
      exact OwnF.nil _ _ _ _
  | some u =>
    rw [hun] at hiu
    obtain ⟨ku, rfl, hku⟩ := hiu
    have hds : u.decls = ds := by rw [← HDL.out, hun]; rfl
    have hkl : ku < us.length := (List.getElem?_eq_some_iff.1 hku).1
    have ku0 : (0 : Int) ≤ (ku : Int) := by omega
    have ku1 : (ku : Int) < (us.length : Int) := by omega
    obtain ⟨bu, ou, rfl⟩ := hf (by omega)
    obtain ⟨cs, ⟨vi, vd, vb, li, lb, rfl, hri, hrd, hrb⟩, hcs⟩ := HA.out.get ku u hku
    rw [hds] at hrd
    obtain ⟨ad, cd, rfl, hcd, hmd, hdf⟩ := hrd.form
    have hld := Nat.le_trans hcd hmd
    unfold maxLen at hld
    have HD := Lib.hid hrd
    have HC2 := Lib.hid (hcs 2 _ rfl)
    clear hcs hri hrd hrb hds hku hun
    go_wp2_with fail
    go_loopw [7, 9] (fun lv iv wr => ∃ (k : Nat) (cur : List Fld), k ≤ ds.length ∧ iv = .int .i64 k ∧ Below w2.heap.size w2 wr ∧ Srt ltF cur ∧ OwnF w0 d wr w2.heap.size lv cur ∧ Hid (insAll ltF cur (mOf n (ds.drop k)) = isort ltF (mOf n ds))) (fun _ iv _ => ds.length - (intOf iv).toNat)
    case atStart => exact ⟨0, [], by omega, rfl, Below.refl _ _, List.Pairwise.nil, OwnF.nil _ _ _ _, rfl⟩
    case round =>
      obtain ⟨k, cur, hk, rfl, hb, hsrt, hown, H⟩ := hrel
      have HB := Lib.hid hb
      have HSRT := Lib.hid hsrt
      have HOWN := Lib.hid hown
      obtain ⟨cells, hoc, _⟩ := hown
      obtain ⟨ao, cap, rfl⟩ := own_shape hoc
      have HBW2 := Lib.hid (HBW.out.trans (hb.mono (Nat.le_of_lt hsz)))
      have H00 := Lib.hid (H0.out.trans (HBW2.out.mono hw0w))
      have hbx := (hb.block w.heap.size hsz).trans HBOX.out
      have q2 := cell_on H00.out HC2.out
      have t2 : wr.cell? ⟨w.heap.size, 2, none⟩ = some (.string n) := by simp [World.cell?, hbx]
      have hsz2 := hb.size
      have hszr : w.heap.size < wr.heap.size := Nat.lt_of_lt_of_le hsz hb.size
      clear hb hsrt hoc hbx
      by_cases hlt : k < ds.length
      · obtain ⟨b, o, rfl⟩ := hdf (by omega)
        obtain ⟨cs, ⟨z0, z1, z2, z3, z4, vf, rfl, hty, hfs⟩, hcs⟩ := HD.out.get k ds[k] (by simp)
        have HE := Lib.hid (mOf_at n ds k hlt)
        obtain ⟨x, hx⟩ : ∃ x, ds[k] = x := ⟨_, rfl⟩
        rw [hx] at HE hty hfs hcs
        obtain ⟨kd, nm, of, vl, t, fs⟩ := x
        dsimp only at HE hty hfs hcs
        obtain ⟨y0, y1, y2, y3, y4, y5, y6, y7, y8, rfl, rfl, rfl, rfl, rfl⟩ := lies_form hty
        obtain ⟨af, cf, rfl, _⟩ := hfs.form
        have HX : Hid (LiesF w0 d [.string nm, .int .i64 y0, .string y1, .string y2, .slice y3 y4 y5, .slice y6 y7 y8] ⟨nm, t⟩) := Lib.hid ⟨_, _, _, _, _, rfl, hty⟩
        have g0 := cell_on H00.out (hcs 0 _ rfl)
        rw [Nat.add_zero] at g0
        have g1 := cell_on H00.out (hcs 1 _ rfl)
        have g2 := cell_on H00.out (hcs 2 _ rfl)
        have g3 := cell_on H00.out (hcs 3 _ rfl)
        have g4 := cell_on H00.out (hcs 4 _ rfl)
        have g5 := cell_on H00.out (hcs 5 _ rfl)
        have g6 := cell_on H00.out (hcs 6 _ rfl)
        have g7 := cell_on H00.out (hcs 7 _ rfl)
        have g8 := cell_on H00.out (hcs 8 _ rfl)
        have g9 := cell_on H00.out (hcs 9 _ rfl)
        clear hcs hty hfs hx
        cases hc : ((kd == 6) && (of == n))
        · have HR := Lib.hid (show insAll ltF cur (mOf n (ds.drop (k + 1))) = isort ltF (mOf n ds) by rw [← H.out, HE.out, if_neg (by rw [hc]; simp)])
          clear H HE
          cases hk6 : (kd == 6)
          · clear hc
            go_wp2_with fail
            exact ⟨⟨k + 1, cur, by omega, by go_num, HB.out.alloc HB.out.size _, HSRT.out, HOWN.out.below ((Below.refl _ _).alloc (Nat.le_refl _) _), HR⟩, by simp [intOf]; omega⟩
          · rw [hk6, Bool.true_and] at hc
            have hp' : (of.toList == n.toList) = false := by simpa using list_eq hc
            clear hc
            go_wp2_with fail
            exact ⟨⟨k + 1, cur, by omega, by go_num, HB.out.alloc HB.out.size _, HSRT.out, HOWN.out.below ((Below.refl _ _).alloc (Nat.le_refl _) _), HR⟩, by simp [intOf]; omega⟩
        · have HR := Lib.hid (show insAll ltF (mrg ltF cur [⟨nm, t⟩]) (mOf n (ds.drop (k + 1))) = isort ltF (mOf n ds) by rw [← H.out, HE.out, if_pos hc, insAll])
          have HCL := Lib.hid (show cur.length ≤ 1000000 by
            have := congrArg List.length HR.out
            rw [insAll_length, isort_length, mrg_length] at this
            have h2 := HBD.out
            omega)
          rw [Bool.and_eq_true] at hc
          obtain ⟨hk6, hnm⟩ := hc
          have hp' := list_eq' hnm
          clear H HE hnm
          go_wp2_with (first | (go_at_call 59; refine (put59_any d w0 _ w2.heap.size _ cur ⟨nm, t⟩ y0 y1 y2 y3 y4 y5 y6 y7 y8 (by omega) (by simp; omega) HCL.out HSRT.out (HOWN.out.below ((Below.refl _ _).alloc (Nat.le_refl _) _)) HX.out).mono ?_; rintro e w5 ⟨hb5, u5, rfl, ho5⟩; have HB5 := Lib.hid (show Below w2.heap.size w2 w5 from (HB.out.alloc HB.out.size _).trans hb5); have HO5 := Lib.hid ho5; clear hb5 ho5))
          exact ⟨⟨k + 1, _, by omega, by go_num, HB5.out, mrg_srt weakF HSRT.out (List.pairwise_singleton _ _), HO5.out, HR⟩, by simp [intOf]; omega⟩
      · have HR := Lib.hid (show cur = isort ltF (mOf n ds) by rw [← H.out, List.drop_eq_nil_of_le (by omega)]; rfl)
        clear H
        go_wp2_with fail
        go_ret
        refine ⟨HBW2.out, _, rfl, ?_⟩
        rw [← HR.out]
        exact HOWN.out.base (Nat.le_of_lt hsz)
end Go.Proofs.Ytcelpmojhjnggaa
