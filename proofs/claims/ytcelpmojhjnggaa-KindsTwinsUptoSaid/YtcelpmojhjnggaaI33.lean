/- The document's Methods. -/
import Derived.Test.YtcelpmojhjnggaaI30
import Derived.Test.YtcelpmojhjnggaaI11
import Derived.Deep.Cut
import Derived.Deep.DeepCutAuto
import Derived.Deep.RegionHeld3
import Derived.BigRegion
import Derived.Test.YtcelpmojhjnggaaI32
import Derived.Test.YtcelpmojhjnggaaI31
namespace Go.Proofs.Ytcelpmojhjnggaa
open Go Go.RowKit Go.Sort Go.Deep KindsP
set_option maxHeartbeats 4000000
set_option maxRecDepth 100000

theorem OwnF.rowG {w0 w : World} {d B : Nat} {v : Value} {l : List Fld} (h : OwnF w0 d w B v l) (hB : w0.heap.size ≤ B) : RowG 6 (LiesF w0 d) w v l := by
  obtain ⟨cells, hoc, hcells⟩ := id h
  rcases hoc.2 with ⟨rfl, h2⟩ | ⟨g, cp, cur, rfl, _⟩
  · obtain rfl := List.length_eq_zero_iff.1 h2
    exact RowG.nil _ _ _
  · obtain ⟨_, _, hnc, hcm, hrow, _⟩ := h.row hB
    exact hrow.rowG hnc hcm
theorem KindsMethods_x (d D : Nat) (w : World) (v vv : Value) (us : List Unt) (vars : List Fld) (k : Int) (p n : ByteArray) (a1 a2 : Option Addr) (n1 c1 n2 c2 : Nat) (t : Ty) (h : RowG 4 (LiesU w d) w v us) (hv : RowG 6 (LiesF w d) w vv vars) (ht : Lies w D (.agg #[.int .i64 k, .string p, .string n, .slice a1 n1 c1, .slice a2 n2 c2]) t) (hbd : ∀ k p n, (baseL us k p n).length ≤ 1000000) (hst : ∀ k p n, ∀ x ∈ baseL us k p n, sizT x.ty ≤ 1000000000) :
    Calls Try.prog 8 #[v, vv, .agg #[.int .i64 k, .string p, .string n, .slice a1 n1 c1, .slice a2 n2 c2]] w fun e w' => e = .returned (.bool true) ∧ Below w.heap.size w w' := by
  have hb1 : Below w.heap.size w (w.alloc (.cells #[.int .i64 k, .string p, .string n, .slice a1 n1 c1, .slice a2 n2 c2] 31)) := (Below.refl _ _).alloc (Nat.le_refl _) _
  have HU := Lib.hid (units_some d (w.alloc (.cells #[.int .i64 k, .string p, .string n, .slice a1 n1 c1, .slice a2 n2 c2] 31)) v us (h.mono (LiesU.below hb1 d) hb1))
  have HFI := Lib.hid (fun W (hb : Below w.heap.size w W) => fields_some d W vv vars (hv.mono (LiesF.below hb d) hb))
  have HGR := Lib.hid (fun W (hb : Below w.heap.size w W) => great_any D (W.alloc (.cells #[.int .i64 k, .string p, .string n, .slice a1 n1 c1, .slice a2 n2 c2] 31)) (.slice (some ⟨W.heap.size, 0, none⟩) 1 1) [t] (row_one (heap_alloc_new W _) (Lies.below (hb.alloc hb.size _) _ _ _ ht)))
  have HME := Lib.hid (fun W (hb : Below w.heap.size w W) => meth_any d w W v vv us vars k p n a1 a2 n1 c1 n2 c2 h hv hb hbd hst)
  have HRM := Lib.hid (fun W (hb : Below w.heap.size w W) => rmeth_any d w W v vv us vars k p n a1 a2 n1 c1 n2 c2 h hv hb (fun p n => by have := hbd 8 p n; unfold baseL at this; rw [if_neg (by decide), if_pos rfl] at this; exact this) (fun p n => by have := hbd 5 p n; unfold baseL at this; rw [if_pos rfl] at this; exact this))
  generalize methL us vars k p n = L at HME HRM
  have HBX := Lib.hid (fun (W : World) (hb : Below (w.alloc (.cells #[.int .i64 k, .string p, .string n, .slice a1 n1 c1, .slice a2 n2 c2] 31)).heap.size (w.alloc (.cells #[.int .i64 k, .string p, .string n, .slice a1 n1 c1, .slice a2 n2 c2] 31)) W) => (show (W.cell? ⟨w.heap.size, 0, none⟩ = some (.int .i64 k) ∧ W.cell? ⟨w.heap.size, 1, none⟩ = some (.string p) ∧ W.cell? ⟨w.heap.size, 2, none⟩ = some (.string n) ∧ W.cell? ⟨w.heap.size, 3, none⟩ = some (.slice a1 n1 c1) ∧ W.cell? ⟨w.heap.size, 4, none⟩ = some (.slice a2 n2 c2)) ∧ Below w.heap.size w W from by
    obtain ⟨hk, hbw⟩ := alloc_known hb
    exact ⟨⟨(cell_of_row _ _ 0 _ _ _ hk).trans rfl, (cell_of_row _ _ 1 _ _ _ hk).trans rfl, (cell_of_row _ _ 2 _ _ _ hk).trans rfl, (cell_of_row _ _ 3 _ _ _ hk).trans rfl, (cell_of_row _ _ 4 _ _ _ hk).trans rfl⟩, hbw⟩))
  have HS1 := Lib.hid (show w.heap.size ≤ (w.alloc (.cells #[.int .i64 k, .string p, .string n, .slice a1 n1 c1, .slice a2 n2 c2] 31)).heap.size by simp)
  obtain ⟨av, cv, rfl, _⟩ := h.form
  obtain ⟨bv, ev, rfl, _⟩ := hv.form
  clear h hv ht hb1 hbd hst
  cases hg : greatB [t]
  all_goals
    have HGB := Lib.hid hg
    clear hg
    go_enter Try.func8, Try.ntmps8
    go_wp2_with (first | (go_at_call 24; refine HU.out.mono ?_; rintro e w1 ⟨⟨b, rfl⟩, hb1⟩; refine Hid.out ?_))
    refine Lib.hid ?_
    obtain ⟨⟨q0, q1, q2, q3, q4⟩, hbw1⟩ := HBX.out w1 hb1
    have HN1 := Lib.hid hb1
    have HB1 := Lib.hid hbw1
    clear hb1 hbw1
    cases b
    · go_wp2_with (first | (go_at_call 28; refine (HFI.out w1 HB1.out).mono ?_; rintro e w2 ⟨⟨b, rfl⟩, hb2⟩; refine Hid.out ?_))
      refine Lib.hid ?_
      have HN2 := Lib.hid (HN1.out.trans (hb2.mono HN1.out.size))
      clear q0 q1 q2 q3 q4 hb2
      obtain ⟨⟨q0, q1, q2, q3, q4⟩, hbw2⟩ := HBX.out w2 HN2.out
      have HB2 := Lib.hid hbw2
      clear hbw2
      cases b
      · go_wp2_with (first | (go_at_call 12; refine (HGR.out w2 HB2.out).mono ?_; rintro e w3 ⟨rfl, hb3⟩; rw [HGB.out]; refine Hid.out ?_))
        refine Lib.hid ?_
        have HN3 := Lib.hid ((HN2.out.alloc HN2.out.size _).trans (hb3.mono (HN2.out.alloc HN2.out.size _).size))
        clear q0 q1 q2 q3 q4 hb3
        obtain ⟨⟨q0, q1, q2, q3, q4⟩, hbw3⟩ := HBX.out w3 HN3.out
        have HB3 := Lib.hid hbw3
        clear hbw3
        first
          | (go_wp2_with (first | (go_at_call 13; refine (awake_any _).mono ?_; rintro e w9 ⟨rfl, hb9⟩; have HB9 := Lib.hid (HB3.out.trans (hb9.mono HB3.out.size)); clear hb9)); go_ret; exact ⟨rfl, HB9.out⟩)
          | (go_wp2_with (first | (go_at_call 29; refine (HME.out w3 HB3.out).mono ?_; rintro e w4 ⟨hb4, u4, rfl, hr4⟩; obtain ⟨_, _, rfl, _⟩ := id hr4.form; have HR4 := Lib.hid hr4; have HN4 := Lib.hid (HN3.out.trans (hb4.mono HN3.out.size)); obtain ⟨⟨s0, s1, s2, s3, s4⟩, hbw4⟩ := HBX.out w4 (HN3.out.trans (hb4.mono HN3.out.size)); have HB4 := Lib.hid hbw4; clear hb4 hr4 hbw4) | (go_at_call 31; refine (HRM.out w4 HB4.out).mono ?_; rintro e w5 ⟨hb5, u5, rfl, ho5⟩; have HR5 := Lib.hid (ho5.rowG HB4.out.size); have HB54 := Lib.hid hb5; have HB5 := Lib.hid (HB4.out.trans (hb5.mono HB4.out.size)); clear hb5 ho5) | (go_at_call 30; refine (SameFields_same (d + 1) (d + 1) w5 _ _ L ((HR4.out.mono (fun _ _ h => h.lies) (Below.refl _ _)).mono (LiesF.below HB54.out (d + 1)) HB54.out) (HR5.out.mono (LiesF.below HB5.out (d + 1)) (Below.refl _ _))).mono ?_; rintro e w6 ⟨rfl, hb6⟩; have HB6 := Lib.hid (HB5.out.trans (hb6.mono HB5.out.size)); clear hb6) | (go_at_call 13; refine (awake_any _).mono ?_; rintro e w9 ⟨rfl, hb9⟩; have HB9 := Lib.hid (HB6.out.trans (hb9.mono HB6.out.size)); clear hb9)); go_ret; exact ⟨rfl, HB9.out⟩)
      · go_wp2_with (first | (go_at_call 13; refine (awake_any _).mono ?_; rintro e w9 ⟨rfl, hb9⟩; have HB9 := Lib.hid (HB2.out.trans (hb9.mono HB2.out.size)); clear hb9))
        go_ret
        exact ⟨rfl, HB9.out⟩
    · go_wp2_with (first | (go_at_call 13; refine (awake_any _).mono ?_; rintro e w9 ⟨rfl, hb9⟩; have HB9 := Lib.hid (HB1.out.trans (hb9.mono HB1.out.size)); clear hb9))
      go_ret
      exact ⟨rfl, HB9.out⟩
end Go.Proofs.Ytcelpmojhjnggaa

/- How much units hold that were handed in. -/
namespace Go.Proofs.Ytcelpmojhjnggaa
set_option maxRecDepth 100000
open Go Go.ChangeShapes Go.WideShapes Go.ChangeAt Go.RowKit KindsP

def sumM {α : Type} (m : α → Nat) : List α → Nat
  | [] => 0
  | x :: l => m x + sumM m l
theorem sumM_mem {α : Type} (m : α → Nat) : ∀ (l : List α) (x : α), x ∈ l → m x ≤ sumM m l
  | y :: l, x, h => by
    rw [sumM]
    rcases List.mem_cons.1 h with rfl | h
    · omega
    · have := sumM_mem m l x h; omega
theorem sumM_len {α : Type} (m : α → Nat) (hm : ∀ x, 80 ≤ m x) : ∀ l : List α, 80 * l.length ≤ sumM m l
  | [] => by simp
  | x :: l => by have := sumM_len m hm l; have := hm x; rw [sumM, List.length_cons]; omega
theorem sumM_all {H : Type} {α : Type} (m : α → Nat) : ∀ (l : List α) (es : List (DataW H × List MemPlace)), l.length = es.length → (∀ (i : Nat) (t : α) (y : DataW H × List MemPlace), l[i]? = some t → es[i]? = some y → m t ≤ 30 * Rows.uptoBulk y.1) → sumM m l ≤ 30 * Rows.uptoBulkAll (es.map (·.1))
  | [], [], _, _ => by rw [sumM]; omega
  | t :: l, y :: es, hl, h => by
    have h0 := h 0 t y rfl rfl
    have h1 := sumM_all m l es (by simpa using hl) (fun i t y ht hy => h (i + 1) t y (by simpa using ht) (by simpa using hy))
    rw [sumM, List.map_cons, Rows.uptoBulkAll]
    omega
  | [], _ :: _, hl, _ => by simp at hl
  | _ :: _, [], hl, _ => by simp at hl
mutual
theorem siz_bulk : ∀ t : Ty, sizT t ≤ bulkT t
  | .mk k p n la lr => by rw [sizT, bulkT]; have := sizL_bulk la; have := sizL_bulk lr; omega
theorem sizL_bulk : ∀ l : List Ty, sizL l ≤ bulkL l
  | [] => by rw [sizL, bulkL]; omega
  | x :: l => by rw [sizL, bulkL]; have := siz_bulk x; have := sizL_bulk l; omega
end
theorem bulk_pos (t : Ty) : 20 ≤ bulkT t := by cases t; rw [bulkT]; omega
def mF (x : Fld) : Nat := bulkT x.ty + 60
def mD (x : Dcl) : Nat := bulkT x.ty + sumM mF x.fields + 60
def mU (u : Unt) : Nat := sumM mD u.decls
section
variable {H : Type} {enc : TypeId × Value → H} {W : World} {base : Nat} {held : Bool} {spare : Nat → Bool}
theorem open_rowGM {α : Type} {ts t n : Nat} (hu : Try.prog.underlying ts = some (.slice t)) (hc : Try.prog.cellsOf t = n) (hn : 0 < n) (R : Nat → List Value → α → Prop) (m : α → Nat) (hR : ∀ g f cs x, g ≤ f → R g cs x → R f cs x) (f : Nat)
    (ih : ∀ g, g < f → ∀ cs x, DataW.trod enc Try.prog W base spare held g t cs = some x → ∃ y, R g cs y ∧ m y ≤ 30 * Rows.uptoBulk x.1) (cs : List Value) (x : DataW H × List MemPlace) (h : DataW.trod enc Try.prog W base spare held f ts cs = some x) :
    ∃ v, ∃ l : List α, cs = [v] ∧ RowG n (R f) W v l ∧ sumM m l ≤ 30 * Rows.uptoBulk x.1 := by
  rcases DataW.trod_slice hu h with ⟨rfl, rfl⟩ | ⟨a, len, cap, elems, rest, mm, rfl, rfl, rfl, hb, hlc, hcm, hel, hcell, _, _⟩
  · exact ⟨_, [], rfl, RowG.nil _ _ _, by rw [sumM]; omega⟩
  · obtain ⟨l, hll, hq⟩ := list_choose elems (fun i (y : α) e => (∃ cs : List Value, cs.length = n ∧ R mm cs y ∧ ∀ j, j < n → W.cell? ((a.add (i * n)).add j) = cs[j]?) ∧ m y ≤ 30 * Rows.uptoBulk e.1) (by
      intro i y hy
      have hi : i < len := by rw [← hel]; exact (List.getElem?_eq_some_iff.1 hy).1
      have hc' := hcell i hi
      rw [hy, hc] at hc'
      obtain ⟨cs, hcs, htr⟩ := Option.bind_eq_some_iff.1 hc'
      obtain ⟨_, hlen, hj⟩ := World.cells?_some hcs
      obtain ⟨y, hy', hm'⟩ := ih mm (by omega) _ _ htr
      exact ⟨y, ⟨cs, hlen, hy', hj⟩, hm'⟩)
    have hsum := sumM_all m l elems hll (fun i t y ht hy => (hq i t y ht hy).2)
    refine ⟨_, l, rfl, ⟨some a, cap, by rw [hll, hel], by omega, hcm, ?_⟩, ?_⟩
    · by_cases hne : l = []
      · exact .inl hne
      · right
        have h0 : 0 < l.length := List.length_pos_iff.2 hne
        have hpl : a.spot = none := by
          obtain ⟨⟨cs, hlen, _, hj⟩, _⟩ := hq 0 l[0] (elems[0]'(by omega)) (List.getElem?_eq_getElem h0) (List.getElem?_eq_getElem (by omega))
          have := hj 0 hn
          rw [List.getElem?_eq_getElem (by omega)] at this
          rw [show (a.add (0 * n)).add 0 = a by unfold Addr.add; simp] at this
          cases hs : a.spot with
          | none => rfl
          | some q => unfold World.cell? at this; rw [hs] at this; split at this <;> simp at this
        obtain ⟨b, o, sp⟩ := a
        obtain rfl : sp = none := hpl
        refine ⟨b, o, rfl, fun i t ht => ?_⟩
        have hi : i < l.length := (List.getElem?_eq_some_iff.1 ht).1
        obtain ⟨⟨cs, hlen, hr, hj⟩, _⟩ := hq i t (elems[i]'(by omega)) ht (List.getElem?_eq_getElem (by omega))
        refine ⟨cs, hR _ _ _ _ (by omega) hr, fun j u hu => ?_⟩
        have hjn : j < n := by rw [← hlen]; exact (List.getElem?_eq_some_iff.1 hu).1
        have := hj j hjn
        rw [addr_add, addr_add] at this
        rw [this, hu]
    · show _ ≤ 30 * Rows.uptoBulk (.slice _ _)
      rw [Rows.uptoBulk]
      omega
theorem open_FM (f : Nat) : ∀ cs x, DataW.trod enc Try.prog W base spare held f 52 cs = some x → ∃ y, LiesF W f cs y ∧ mF y ≤ 30 * Rows.uptoBulk x.1 := by
  intro cs x h
  obtain ⟨xs, n, rfl, rfl, hl, hlen, hf⟩ := DataW.trod_struct Try.underlying52 h
  rw [cells52] at hl
  obtain ⟨y0, y1, rfl⟩ := list2 (show xs.length = 2 from hlen)
  obtain ⟨c0, c1, c2, c3, c4, c5, rfl⟩ := list6 hl
  obtain ⟨s, e0, u0, _⟩ := DataW.trod_string Try.underlying9 (by have := hf 0 _ rfl; simpa [cells9] using this)
  obtain ⟨d0, d1, d2, d3, d4, t, e1, ht, hbt⟩ := opens n _ _ (by have := hf 1 _ rfl; simpa [cells31] using this)
  simp only [List.cons.injEq, and_true] at e0 e1
  obtain ⟨rfl, rfl, rfl, rfl, rfl⟩ := e1
  subst e0
  refine ⟨⟨s, t⟩, ⟨_, _, _, _, _, rfl, ht.le (Nat.le_succ _)⟩, ?_⟩
  have u0' : 1 ≤ Rows.uptoBulk y0.1 := by rw [u0, Rows.uptoBulk]; omega
  show bulkT t + 60 ≤ 30 * Rows.uptoBulk (.agg [y0.1, y1.1])
  rw [Rows.uptoBulk]
  simp only [Rows.uptoBulkAll]
  omega
theorem open_DM (f : Nat) : ∀ cs x, DataW.trod enc Try.prog W base spare held f 41 cs = some x → ∃ y, LiesD W f cs y ∧ mD y ≤ 30 * Rows.uptoBulk x.1 := by
  intro cs x h
  obtain ⟨xs, n, rfl, rfl, hl, hlen, hf⟩ := DataW.trod_struct Try.underlying41 h
  rw [cells41] at hl
  obtain ⟨y0, y1, y2, y3, y4, y5, rfl⟩ := list6 (show xs.length = 6 from hlen)
  obtain ⟨c0, c1, c2, c3, c4, c5, c6, c7, c8, c9, rfl⟩ := list10 hl
  obtain ⟨k, e0, _, _⟩ := DataW.trod_int Try.underlying3 (by have := hf 0 _ rfl; simpa [cells3] using this)
  obtain ⟨s, e1, u0, _⟩ := DataW.trod_string Try.underlying9 (by have := hf 1 _ rfl; simpa [cells9] using this)
  obtain ⟨s2, e2, _, _⟩ := DataW.trod_string Try.underlying9 (by have := hf 2 _ rfl; simpa [cells9] using this)
  obtain ⟨m, e3, _, _⟩ := DataW.trod_int Try.underlying2 (by have := hf 3 _ rfl; simpa [cells2] using this)
  obtain ⟨d0, d1, d2, d3, d4, t, e4, ht, hbt⟩ := opens n _ _ (by have := hf 4 _ rfl; simpa [cells31] using this)
  obtain ⟨v, l, e5, hr, hbl⟩ := open_rowGM (enc := enc) (base := base) (held := held) (spare := spare) Try.underlying39 cells52 (by omega) (fun g => LiesF W g) mF (fun g f cs x hgf h => h.le hgf) n (fun g hg => open_FM g) _ _ (by have := hf 5 _ rfl; simpa [cells39] using this)
  simp only [List.cons.injEq, and_true] at e0 e1 e2 e3 e4 e5
  obtain ⟨rfl, rfl, rfl, rfl, rfl⟩ := e4
  subst e0 e1 e2 e3 e5
  refine ⟨⟨k, s, s2, m, t, l⟩, ⟨_, _, _, _, _, _, rfl, ht.le (Nat.le_succ _), hr.mono (fun _ _ h => h.le (Nat.le_succ _)) (Below.refl _ _)⟩, ?_⟩
  have u0' : 1 ≤ Rows.uptoBulk y1.1 := by rw [u0, Rows.uptoBulk]; omega
  show bulkT t + sumM mF l + 60 ≤ 30 * Rows.uptoBulk (.agg [y0.1, y1.1, y2.1, y3.1, y4.1, y5.1])
  rw [Rows.uptoBulk]
  simp only [Rows.uptoBulkAll]
  omega
theorem open_UM (f : Nat) : ∀ cs x, DataW.trod enc Try.prog W base spare held f 74 cs = some x → ∃ y, LiesU W f cs y ∧ mU y ≤ 30 * Rows.uptoBulk x.1 := by
  intro cs x h
  obtain ⟨xs, n, rfl, rfl, hl, hlen, hf⟩ := DataW.trod_struct Try.underlying74 h
  rw [cells74] at hl
  obtain ⟨y0, y1, y2, y3, rfl⟩ := list4 (show xs.length = 4 from hlen)
  obtain ⟨c0, c1, c2, c3, rfl⟩ := list4 hl
  obtain ⟨s, e0, _, _⟩ := DataW.trod_string Try.underlying9 (by have := hf 0 _ rfl; simpa [cells9] using this)
  obtain ⟨v1, l1, e1, hr1⟩ := open_rowG (α := Unit) (enc := enc) (base := base) (held := held) (spare := spare) Try.underlying70 (rfl : Try.prog.cellsOf _ = Try.prog.cellsOf _) (by decide +kernel) (fun _ _ _ => True) (fun g f cs x hgf h => h) n (fun g hg _ _ _ => ⟨(), trivial⟩) _ _ (by have := hf 1 _ rfl; simpa [cells70] using this)
  obtain ⟨v2, l2, e2, hr2, hbl⟩ := open_rowGM (enc := enc) (base := base) (held := held) (spare := spare) Try.underlying71 cells41 (by omega) (fun g => LiesD W g) mD (fun g f cs x hgf h => h.le hgf) n (fun g hg => open_DM g) _ _ (by have := hf 2 _ rfl; simpa [cells71] using this)
  obtain ⟨v3, l3, e3, hr3⟩ := open_rowG (enc := enc) (base := base) (held := held) (spare := spare) Try.underlying72 cells103 (by omega) (fun g => LiesB W g) (fun g f cs x hgf h => h.le hgf) n (fun g hg => open_B g) _ _ (by have := hf 3 _ rfl; simpa [cells72] using this)
  simp only [List.cons.injEq, and_true] at e0 e1 e2 e3
  subst e0 e1 e2 e3
  refine ⟨⟨s, l2⟩, ⟨_, _, _, l1, l3, rfl, hr1, hr2.mono (fun _ _ h => h.le (Nat.le_succ _)) (Below.refl _ _), hr3.mono (fun _ _ h => h.le (Nat.le_succ _)) (Below.refl _ _)⟩, ?_⟩
  show sumM mD l2 ≤ 30 * Rows.uptoBulk (.agg [y0.1, y1.1, y2.1, y3.1])
  rw [Rows.uptoBulk]
  simp only [Rows.uptoBulkAll]
  omega
theorem open_unitsM {r : Reach} {b0 : Nat} {v : Value} {d : DataW H} {p : List MemPlace} (hv : Value.okWide Try.prog W r b0 37 v) (h : DataW.Trod enc Try.prog W base spare held 37 v d p) : ∃ D, ∃ l : List Unt, RowG 4 (LiesU W D) W v l ∧ sumM mU l ≤ 30 * Rows.uptoBulk d := by
  obtain ⟨a, n, c, rfl⟩ := okWide_slice Try.underlying37 hv
  obtain ⟨fuel, hf⟩ := h
  obtain ⟨v', l, he, hr, hs⟩ := open_rowGM Try.underlying37 cells74 (by omega) (fun g => LiesU W g) mU (fun g f cs x hgf h => h.le hgf) fuel (fun g _ => open_UM g) _ _ hf
  have : v' = .slice a n c := by simpa [Value.cells] using he.symm
  subst this
  exact ⟨fuel, l, hr, hs⟩
end
/-! ### What is found is a part of it -/
theorem unitF_mem : ∀ (us : List Unt) (p : ByteArray) (u : Unt), unitF us p = some u → u ∈ us
  | x :: us, p, u, h => by
    rw [unitF] at h
    split at h
    · simp at h; subst h; exact List.mem_cons_self ..
    · exact List.mem_cons_of_mem _ (unitF_mem us p u h)
theorem findD_mem : ∀ (ds : List Dcl) (n : ByteArray) (x : Dcl), findD ds n = some x → x ∈ ds
  | y :: ds, n, x, h => by
    rw [findD] at h
    split at h
    · simp at h; subst h; exact List.mem_cons_self ..
    · exact List.mem_cons_of_mem _ (findD_mem ds n x h)
theorem decls_le (us : List Unt) (p : ByteArray) : sumM mD (declsO (unitF us p)) ≤ sumM mU us := by
  cases h : unitF us p with
  | none => rw [declsO, sumM]; omega
  | some u => exact sumM_mem mU us u (unitF_mem us p u h)
theorem mOf_le (n : ByteArray) : ∀ ds : List Dcl, sumM mF (mOf n ds) ≤ sumM mD ds
  | [] => by rw [mOf, sumM, sumM]; omega
  | x :: ds => by
    have := mOf_le n ds
    rw [mOf, sumM]
    split
    · rw [sumM]
      have e1 : mF ⟨x.name, x.ty⟩ = bulkT x.ty + 60 := rfl
      have e2 : mD x = bulkT x.ty + sumM mF x.fields + 60 := rfl
      omega
    · omega
theorem baseL_le (us : List Unt) (k : Int) (p n : ByteArray) : sumM mF (baseL us k p n) ≤ sumM mU us := by
  unfold baseL
  split
  · exact Nat.le_trans (mOf_le n _) (decls_le us p)
  · split
    · split
      · cases h : findU us p n with
        | none => show sumM mF [] ≤ _; rw [sumM]; omega
        | some x =>
          have h1 := sumM_mem mD _ x (findD_mem _ n x h)
          have h2 := decls_le us p
          show sumM mF x.fields ≤ _
          have e2 : mD x = bulkT x.ty + sumM mF x.fields + 60 := rfl
          omega
      · rw [sumM]; omega
    · rw [sumM]; omega
theorem KindsMethods_any (w : World) (D0 D1 D2 : Nat) (v0 v1 v2 : Value) (us : List Unt) (vars : List Fld) (t : Ty) (h : RowG 4 (LiesU w D0) w v0 us) (hv : RowG 6 (LiesF w D1) w v1 vars) (ht : Lies w D2 v2 t) (hb : sumM mU us ≤ 31457280) :
    Calls Try.prog 8 #[v0, v1, v2] w fun e w' => e = .returned (.bool true) ∧ Below w.heap.size w w' := by
  obtain ⟨x0, x1, x2, x3, x4, rfl⟩ := lies_five ht
  obtain ⟨_, _, _, _, _, _, _, _, _, rfl, rfl, rfl, rfl, rfl⟩ := lies_form ht
  refine KindsMethods_x (D0 + D1) D2 w v0 v1 us vars _ _ _ _ _ _ _ _ _ t (h.mono (fun _ _ h => h.le (by omega)) (Below.refl _ _)) (hv.mono (fun _ _ h => h.le (by omega)) (Below.refl _ _)) ht (fun k p n => ?_) (fun k p n x hx => ?_)
  · have h1 := baseL_le us k p n
    have h2 := sumM_len mF (fun x => by unfold mF; have := bulk_pos x.ty; omega) (baseL us k p n)
    omega
  · have h1 := baseL_le us k p n
    have h2 := sumM_mem mF _ x hx
    have h3 := siz_bulk x.ty
    have e1 : mF x = bulkT x.ty + 60 := rfl
    omega
end Go.Proofs.Ytcelpmojhjnggaa

/- The walk of KindsTwins. -/
namespace Go.Proofs.Ytcelpmojhjnggaa
open Go Go.RowKit Go.Sort Go.Deep KindsP
set_option maxHeartbeats 4000000
set_option maxRecDepth 100000

theorem KindsTwins_x (d D : Nat) (w : World) (v : Value) (us : List Unt) (k : Int) (p n : ByteArray) (a1 a2 : Option Addr) (n1 c1 n2 c2 : Nat) (t : Ty) (h : RowG 4 (LiesU w d) w v us) (ht : Lies w D (.agg #[.int .i64 k, .string p, .string n, .slice a1 n1 c1, .slice a2 n2 c2]) t) (hbd : ∀ k p n, (baseL us k p n).length ≤ 1000000) (hst : ∀ k p n, ∀ x ∈ baseL us k p n, sizT x.ty ≤ 1000000000) :
    Calls Try.prog 9 #[v, .agg #[.int .i64 k, .string p, .string n, .slice a1 n1 c1, .slice a2 n2 c2]] w fun e w' => e = .returned (.bool true) ∧ Below w.heap.size w w' := by
  have hb1 : Below w.heap.size w (w.alloc (.cells #[.int .i64 k, .string p, .string n, .slice a1 n1 c1, .slice a2 n2 c2] 31)) := (Below.refl _ _).alloc (Nat.le_refl _) _
  have HU := Lib.hid (units_some d (w.alloc (.cells #[.int .i64 k, .string p, .string n, .slice a1 n1 c1, .slice a2 n2 c2] 31)) v us (h.mono (LiesU.below hb1 d) hb1))
  have HGR := Lib.hid (fun W (hb : Below w.heap.size w W) => great_any D (W.alloc (.cells #[.int .i64 k, .string p, .string n, .slice a1 n1 c1, .slice a2 n2 c2] 31)) (.slice (some ⟨W.heap.size, 0, none⟩) 1 1) [t] (row_one (heap_alloc_new W _) (Lies.below (hb.alloc hb.size _) _ _ _ ht)))
  have HME := Lib.hid (fun W (hb : Below w.heap.size w W) => methf_any d w W v (.slice none 0 0) us [] k p n a1 a2 n1 c1 n2 c2 h (RowG.nil _ _ _) hb hbd hst)
  have HRM := Lib.hid (fun W (hb : Below w.heap.size w W) => rmeth_any d w W v (.slice none 0 0) us [] k p n a1 a2 n1 c1 n2 c2 h (RowG.nil _ _ _) hb (fun p n => by have := hbd 8 p n; unfold baseL at this; rw [if_neg (by decide), if_pos rfl] at this; exact this) (fun p n => by have := hbd 5 p n; unfold baseL at this; rw [if_pos rfl] at this; exact this))
  generalize methL us [] k p n = L at HME HRM
  have HBX := Lib.hid (fun (W : World) (hb : Below (w.alloc (.cells #[.int .i64 k, .string p, .string n, .slice a1 n1 c1, .slice a2 n2 c2] 31)).heap.size (w.alloc (.cells #[.int .i64 k, .string p, .string n, .slice a1 n1 c1, .slice a2 n2 c2] 31)) W) => (show (W.cell? ⟨w.heap.size, 0, none⟩ = some (.int .i64 k) ∧ W.cell? ⟨w.heap.size, 1, none⟩ = some (.string p) ∧ W.cell? ⟨w.heap.size, 2, none⟩ = some (.string n) ∧ W.cell? ⟨w.heap.size, 3, none⟩ = some (.slice a1 n1 c1) ∧ W.cell? ⟨w.heap.size, 4, none⟩ = some (.slice a2 n2 c2)) ∧ Below w.heap.size w W from by
    obtain ⟨hk, hbw⟩ := alloc_known hb
    exact ⟨⟨(cell_of_row _ _ 0 _ _ _ hk).trans rfl, (cell_of_row _ _ 1 _ _ _ hk).trans rfl, (cell_of_row _ _ 2 _ _ _ hk).trans rfl, (cell_of_row _ _ 3 _ _ _ hk).trans rfl, (cell_of_row _ _ 4 _ _ _ hk).trans rfl⟩, hbw⟩))
  obtain ⟨av, cv, rfl, _⟩ := h.form
  clear h ht hb1 hbd hst
  cases hg : greatB [t]
  all_goals
    have HGB := Lib.hid hg
    clear hg
    go_enter Try.func9, Try.ntmps9
    go_wp2_with (first | (go_at_call 24; refine HU.out.mono ?_; rintro e w1 ⟨⟨b, rfl⟩, hb1⟩; refine Hid.out ?_))
    refine Lib.hid ?_
    obtain ⟨⟨q0, q1, q2, q3, q4⟩, hbw1⟩ := HBX.out w1 hb1
    have HN1 := Lib.hid hb1
    have HB1 := Lib.hid hbw1
    clear hb1 hbw1
    cases b
    · go_wp2_with (first | (go_at_call 12; refine (HGR.out w1 HB1.out).mono ?_; rintro e w3 ⟨rfl, hb3⟩; rw [HGB.out]; refine Hid.out ?_))
      refine Lib.hid ?_
      have HN3 := Lib.hid ((HN1.out.alloc HN1.out.size _).trans (hb3.mono (HN1.out.alloc HN1.out.size _).size))
      clear q0 q1 q2 q3 q4 hb3
      obtain ⟨⟨q0, q1, q2, q3, q4⟩, hbw3⟩ := HBX.out w3 HN3.out
      have HB3 := Lib.hid hbw3
      clear hbw3
      first
      | (go_wp2_with (first | (go_at_call 13; refine (awake_any _).mono ?_; rintro e w9 ⟨rfl, hb9⟩; have HB9 := Lib.hid (HB3.out.trans (hb9.mono HB3.out.size)); clear hb9)); go_ret; exact ⟨rfl, HB9.out⟩)
      | (
        go_wp2_with (first | (go_at_call 29; refine (HME.out w3 HB3.out).mono ?_; rintro e w4 ⟨hb4, u4, rfl, ho4⟩; refine Hid.out ?_))
        refine Lib.hid ?_
        obtain ⟨ag, cap, rfl, hcc, hcm, hsp⟩ := ho4.spoil
        have HSP4 := Lib.hid hsp
        have HW3L := Lib.hid (show w.heap.size < w3.heap.size from World.block_lt_of_cell? w3 _ q0)
        have HN4 := Lib.hid (HN3.out.trans (hb4.mono HN3.out.size))
        have hll := Nat.le_trans hcc hcm
        unfold maxLen at hll
        clear q0 q1 q2 q3 q4 hb4 ho4 hsp
        obtain ⟨⟨q0, q1, q2, q3, q4⟩, hbw4⟩ := HBX.out w4 HN4.out
        have HB4 := Lib.hid hbw4
        clear hbw4
        go_wp2_with (first | (go_at_call 31; refine (HRM.out w4 HB4.out).mono ?_; rintro e w5 ⟨hb5, u5, rfl, ho5⟩; refine Hid.out ?_))
        refine Lib.hid ?_
        obtain ⟨cl5, hoc5, _⟩ := id ho5
        obtain ⟨ao5, cp5, rfl⟩ := own_shape hoc5
        have HO5 := Lib.hid ho5
        have HSP5 : Hid (0 < L.length → ∃ g, ag = some ⟨g, 0, none⟩ ∧ Spoil w5 w3.heap.size w4.heap.size g L.length) := Lib.hid (fun hl => by
          obtain ⟨g, e, hs⟩ := HSP4.out hl
          exact ⟨g, e, hs.keep (fun b hb => hb5.block b hb)⟩)
        have HN5 := Lib.hid (HN4.out.trans (hb5.mono HN4.out.size))
        clear q0 q1 q2 q3 q4 hb5 ho5 hoc5
        have HBX5 := Lib.hid (HBX.out w5 HN5.out).1
        have HB5 := Lib.hid (HBX.out w5 HN5.out).2
        have HW4 := Lib.hid (show w.heap.size ≤ w4.heap.size from HB4.out.size)
        have hln : (L.length : Int) ≤ 9223372036854775807 := by omega
        clear HBX HU HGR HRM HSP4 HN1 HN3 HN4 HN5 HB1 HB4 HGB
        go_wp2_with fail
        go_loopw [7] (fun iv wr => ∃ i : Nat, i ≤ L.length ∧ iv = .int .i64 i ∧ Hid (MidW w3.heap.size w4.heap.size w5 wr) ∧ Hid (0 < L.length → ∃ g, ag = some ⟨g, 0, none⟩ ∧ Spoil wr w3.heap.size w4.heap.size g L.length)) (fun iv _ => L.length - (intOf iv).toNat)
        case atStart => exact ⟨0, by omega, rfl, Lib.hid (MidW.refl _ _ _), HSP5⟩
        case round =>
          obtain ⟨i, hi, rfl, HM, HSP⟩ := hrel
          by_cases hilt : i < L.length
          · obtain ⟨g, rfl, hsp⟩ := HSP.out (by omega)
            obtain ⟨hg1, hg2, hrm, hrows⟩ := id hsp
            obtain ⟨a, m, c, e4, hmc, hcm2, _⟩ := hrows i hilt
            have hi0 : (0 : Int) ≤ (i : Int) := by omega
            have hi1 : (i : Int) < (L.length : Int) := by omega
            obtain ⟨x0, f0⟩ := hrm.cell (i * 6) (by omega)
            have fz := fun j => hrm.frozen j
            have hgl := hrm.lt
            have HI0 : Hid (MidW w3.heap.size w4.heap.size w5 (wr.setCell ⟨g, i * 6, none⟩ (.string ⟨#[63]⟩)) ∧ Spoil (wr.setCell ⟨g, i * 6, none⟩ (.string ⟨#[63]⟩)) w3.heap.size w4.heap.size g L.length ∧ (wr.setCell ⟨g, i * 6, none⟩ (.string ⟨#[63]⟩)).cell? ⟨g, i * 6 + 4, none⟩ = some (.slice a m c)) := Lib.hid ⟨HM.out.set hg1 hg2 _ _, hsp.name _ _, (cell_set_ne hrm.some _ (by omega)).trans e4⟩
            have HG1 := Lib.hid hg1
            have HG2 := Lib.hid hg2
            have hml : (m : Int) ≤ 9223372036854775807 := by unfold maxLen at hcm2; omega
            clear hsp hrm hrows hg1 hg2 e4
            go_wp2_with fail
            go_loopw [8] (fun kv wx => ∃ j : Nat, j ≤ m ∧ kv = .int .i64 j ∧ Hid (MidW w3.heap.size w4.heap.size w5 wx ∧ Spoil wx w3.heap.size w4.heap.size g L.length ∧ wx.cell? ⟨g, i * 6 + 4, none⟩ = some (.slice a m c))) (fun kv _ => m - (intOf kv).toNat)
            case atStart => exact ⟨0, by omega, rfl, HI0⟩
            case round =>
              obtain ⟨j, hj, rfl, HI⟩ := hrel
              have e4 := HI.out.2.2
              have e4' : wr.cell? ⟨g, i * 6 + 1 + 3, none⟩ = some (.slice a m c) := e4
              by_cases hjlt : j < m
              · obtain ⟨hmx, hsx, _⟩ := HI.out
                obtain ⟨a', m', c', e4x, _, _, har⟩ := hsx.2.2.2 i hilt
                rw [e4] at e4x
                simp only [Option.some.injEq, Value.slice.injEq] at e4x
                obtain ⟨rfl, rfl, rfl⟩ := e4x
                rcases har with har | ⟨b, o, rfl, hb1, hb2, hbg, hrb⟩
                · omega
                · obtain ⟨y0, g0⟩ := hrb.cell (o + j * 5) (by omega)
                  obtain ⟨y1, g1⟩ := hrb.cell (o + j * 5 + 1) (by omega)
                  obtain ⟨y2, g2⟩ := hrb.cell (o + j * 5 + 2) (by omega)
                  obtain ⟨y3, g3⟩ := hrb.cell (o + j * 5 + 3) (by omega)
                  obtain ⟨y4, g4⟩ := hrb.cell (o + j * 5 + 4) (by omega)
                  have fz := fun j => hrb.frozen j
                  have hbl := hrb.lt
                  have hj0 : (0 : Int) ≤ (j : Int) := by omega
                  have hj1 : (j : Int) < (m : Int) := by omega
                  have HNX : Hid (MidW w3.heap.size w4.heap.size w5 (five wr b (o + j * 5) (.int .i64 77) (.string ⟨#[]⟩) (.string ⟨#[]⟩) (.slice none 0 0) (.slice none 0 0)) ∧ Spoil (five wr b (o + j * 5) (.int .i64 77) (.string ⟨#[]⟩) (.string ⟨#[]⟩) (.slice none 0 0) (.slice none 0 0)) w3.heap.size w4.heap.size g L.length ∧ (five wr b (o + j * 5) (.int .i64 77) (.string ⟨#[]⟩) (.string ⟨#[]⟩) (.slice none 0 0) (.slice none 0 0)).cell? ⟨g, i * 6 + 4, none⟩ = some (.slice (some ⟨b, o, none⟩) m c)) := Lib.hid ⟨((((hmx.set hb1 hb2 _ _).set hb1 hb2 _ _).set hb1 hb2 _ _).set hb1 hb2 _ _).set hb1 hb2 _ _, ((((hsx.arg hbg _ _).arg hbg _ _).arg hbg _ _).arg hbg _ _).arg hbg _ _, (cell_set_other _ hbg).trans ((cell_set_other _ hbg).trans ((cell_set_other _ hbg).trans ((cell_set_other _ hbg).trans ((cell_set_other _ hbg).trans e4))))⟩
                  clear hmx hsx hrb hb1 hb2 hbg
                  go_wp2_with fail
                  refine ⟨⟨j + 1, by omega, by go_num, HNX⟩, by simp [intOf]; omega⟩
              · obtain rfl : j = m := by omega
                go_wp2_with fail
                refine ⟨⟨i + 1, by omega, by go_num, Lib.hid HI.out.1, Lib.hid (fun _ => ⟨g, rfl, HI.out.2.1⟩)⟩, by simp [intOf]; omega⟩
          · have HBR := Lib.hid (HM.out.below HB5.out HB3.out.size)
            have HOR := Lib.hid (HO5.out.mid HM.out (Nat.le_refl _))
            have hbx := HBX5.out
            have q0 := HM.out.cell HW3L.out hbx.1
            have q1 := HM.out.cell HW3L.out hbx.2.1
            have q2 := HM.out.cell HW3L.out hbx.2.2.1
            have q3 := HM.out.cell HW3L.out hbx.2.2.2.1
            have q4 := HM.out.cell HW3L.out hbx.2.2.2.2
            clear hbx
            go_wp2_with (first | (go_at_call 29; refine (HME.out wr HBR.out).mono ?_; rintro e w6 ⟨hb6, u6, rfl, ho6⟩; have hr6 := ho6.rowG; obtain ⟨_, _, rfl, _⟩ := id hr6.form; have HR6 := Lib.hid (show RowG 6 (LiesF w6 (d + 1)) w6 _ L from hr6.mono (fun _ _ h => h.lies) (Below.refl _ _)); have HO6 := Lib.hid (HOR.out.below hb6); have HB6 := Lib.hid (HBR.out.trans (hb6.mono HBR.out.size)); clear hb6 ho6 hr6) | (go_at_call 30; refine (SameFields_same (d + 1) (d + 1) w6 _ _ L HR6.out ((HO6.out.rowG HW4.out).mono (LiesF.below HB6.out (d + 1)) (Below.refl _ _))).mono ?_; rintro e w7 ⟨rfl, hb7⟩; have HB7 := Lib.hid (HB6.out.trans (hb7.mono HB6.out.size)); clear hb7) | (go_at_call 13; refine (awake_any _).mono ?_; rintro e w9 ⟨rfl, hb9⟩; have HB9 := Lib.hid (HB7.out.trans (hb9.mono HB7.out.size)); clear hb9))
            go_ret
            exact ⟨rfl, HB9.out⟩)
    · go_wp2_with (first | (go_at_call 13; refine (awake_any _).mono ?_; rintro e w9 ⟨rfl, hb9⟩; have HB9 := Lib.hid (HB1.out.trans (hb9.mono HB1.out.size)); clear hb9))
      go_ret
      exact ⟨rfl, HB9.out⟩
theorem KindsTwins_any (w : World) (D0 D1 : Nat) (v0 v1 : Value) (us : List Unt) (t : Ty) (h : RowG 4 (LiesU w D0) w v0 us) (ht : Lies w D1 v1 t) (hb : sumM mU us ≤ 31457280) :
    Calls Try.prog 9 #[v0, v1] w fun e w' => e = .returned (.bool true) ∧ Below w.heap.size w w' := by
  obtain ⟨x0, x1, x2, x3, x4, rfl⟩ := lies_five ht
  obtain ⟨_, _, _, _, _, _, _, _, _, rfl, rfl, rfl, rfl, rfl⟩ := lies_form ht
  refine KindsTwins_x D0 D1 w v0 us _ _ _ _ _ _ _ _ _ t h ht (fun k p n => ?_) (fun k p n x hx => ?_)
  · have h1 := baseL_le us k p n
    have h2 := sumM_len mF (fun x => by unfold mF; have := bulk_pos x.ty; omega) (baseL us k p n)
    omega
  · have h1 := baseL_le us k p n
    have h2 := sumM_mem mF _ x hx
    have h3 := siz_bulk x.ty
    have e1 : mF x = bulkT x.ty + 60 := rfl
    omega
end Go.Proofs.Ytcelpmojhjnggaa
