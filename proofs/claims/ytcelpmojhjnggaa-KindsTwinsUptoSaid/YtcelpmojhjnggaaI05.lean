/- Units in memory, in plain words. -/
import Derived.Test.YtcelpmojhjnggaaI04
import Derived.Lib.QuietBelow
import Derived.Deep.Cut
import Derived.Deep.DeepCutAuto
import Derived.Deep.RegionHeld3
namespace Go.Proofs.Ytcelpmojhjnggaa
open Go Go.RowKit KindsP
set_option maxRecDepth 100000

/-- a slice of elements of n cells each, and what R says of them -/
def RowG {α : Type} (n : Nat) (R : List Value → α → Prop) (w : World) (v : Value) (l : List α) : Prop :=
  ∃ a c, v = .slice a l.length c ∧ l.length ≤ c ∧ c ≤ maxLen ∧ (l = [] ∨ ∃ b o, a = some ⟨b, o, none⟩ ∧ ∀ i x, l[i]? = some x → ∃ cs : List Value, R cs x ∧ ∀ j u, cs[j]? = some u → w.cell? ⟨b, o + i * n + j, none⟩ = some u)
theorem RowG.mono {α : Type} {n : Nat} {R R' : List Value → α → Prop} {w w' : World} {v : Value} {l : List α} (h : RowG n R w v l) (hR : ∀ cs x, R cs x → R' cs x) (hb : Below w.heap.size w w') : RowG n R' w' v l := by
  obtain ⟨a, c, h1, h2, h3, h4⟩ := h
  refine ⟨a, c, h1, h2, h3, ?_⟩
  rcases h4 with h4 | ⟨b, o, h5, h6⟩
  · exact .inl h4
  · refine .inr ⟨b, o, h5, fun i x hx => ?_⟩
    obtain ⟨cs, hr, hf⟩ := h6 i x hx
    exact ⟨cs, hR _ _ hr, fun j u hu => (hb.cell (World.block_lt_of_cell? w _ (hf j u hu))).trans (hf j u hu)⟩
theorem RowG.form {α : Type} {n : Nat} {R : List Value → α → Prop} {w : World} {v : Value} {l : List α} (h : RowG n R w v l) : ∃ a c, v = .slice a l.length c ∧ l.length ≤ c ∧ c ≤ maxLen ∧ (0 < l.length → ∃ b o, a = some ⟨b, o, none⟩) := by
  obtain ⟨a, c, h1, h2, h3, h4⟩ := h
  refine ⟨a, c, h1, h2, h3, fun hl => ?_⟩
  rcases h4 with rfl | ⟨b, o, h5, _⟩
  · simp at hl
  · exact ⟨b, o, h5⟩
theorem RowG.get {α : Type} {R : List Value → α → Prop} {w : World} {b o n m c : Nat} {l : List α} (h : RowG n R w (.slice (some ⟨b, o, none⟩) m c) l) (i : Nat) (x : α) (hx : l[i]? = some x) :
    ∃ cs : List Value, R cs x ∧ ∀ j u, cs[j]? = some u → w.cell? ⟨b, o + i * n + j, none⟩ = some u := by
  obtain ⟨a, c', h1, _, _, h4⟩ := h
  rcases h4 with h4 | ⟨b', o', h5, h6⟩
  · subst h4; simp at hx
  · subst h5
    simp only [Value.slice.injEq, Option.some.injEq, Addr.mk.injEq] at h1
    obtain ⟨⟨rfl, rfl, _⟩, _, _⟩ := h1
    exact h6 i x hx
theorem RowG.nil {α : Type} (n : Nat) (R : List Value → α → Prop) (w : World) : RowG n R w (.slice none 0 0) ([] : List α) := ⟨none, 0, rfl, by simp, by unfold maxLen; omega, .inl rfl⟩

/-- an expression of the tree code lies in memory -/
def LiesE (w : World) : Nat → List Value → Unit → Prop
  | 0, _, _ => False
  | d + 1, cs, _ => ∃ k n s v, ∃ l : List Unit, cs = [.int .i64 k, .int .i64 n, .string s, v] ∧ RowG 4 (LiesE w d) w v l
/-- a statement of the tree code lies in memory -/
def LiesS (w : World) : Nat → List Value → Unit → Prop
  | 0, _, _ => False
  | d + 1, cs, _ => ∃ k n ve vb vl, ∃ le lb ll : List Unit, cs = [.int .i64 k, .int .i64 n, ve, vb, vl] ∧ RowG 4 (LiesE w d) w ve le ∧ RowG 5 (LiesS w d) w vb lb ∧ RowG 5 (LiesS w d) w vl ll
theorem LiesE.below {w w' : World} (hb : Below w.heap.size w w') : ∀ (d : Nat) (cs : List Value) (u : Unit), LiesE w d cs u → LiesE w' d cs u
  | 0, _, _, h => h.elim
  | d + 1, _, _, ⟨k, n, s, v, l, h1, h2⟩ => ⟨k, n, s, v, l, h1, h2.mono (LiesE.below hb d) hb⟩
theorem LiesS.below {w w' : World} (hb : Below w.heap.size w w') : ∀ (d : Nat) (cs : List Value) (u : Unit), LiesS w d cs u → LiesS w' d cs u
  | 0, _, _, h => h.elim
  | d + 1, _, _, ⟨k, n, ve, vb, vl, le, lb, ll, h1, h2, h3, h4⟩ => ⟨k, n, ve, vb, vl, le, lb, ll, h1, h2.mono (LiesE.below hb d) hb, h3.mono (LiesS.below hb d) hb, h4.mono (LiesS.below hb d) hb⟩
theorem LiesE.deeper {w : World} : ∀ (d : Nat) (cs : List Value) (u : Unit), LiesE w d cs u → LiesE w (d + 1) cs u
  | 0, _, _, h => h.elim
  | d + 1, _, _, ⟨k, n, s, v, l, h1, h2⟩ => ⟨k, n, s, v, l, h1, h2.mono (LiesE.deeper d) (Below.refl _ _)⟩
theorem LiesS.deeper {w : World} : ∀ (d : Nat) (cs : List Value) (u : Unit), LiesS w d cs u → LiesS w (d + 1) cs u
  | 0, _, _, h => h.elim
  | d + 1, _, _, ⟨k, n, ve, vb, vl, le, lb, ll, h1, h2, h3, h4⟩ => ⟨k, n, ve, vb, vl, le, lb, ll, h1, h2.mono (LiesE.deeper d) (Below.refl _ _), h3.mono (LiesS.deeper d) (Below.refl _ _), h4.mono (LiesS.deeper d) (Below.refl _ _)⟩
theorem LiesE.le {w : World} {d d' : Nat} {cs : List Value} {u : Unit} (h : LiesE w d cs u) (hd : d ≤ d') : LiesE w d' cs u := by
  induction hd with
  | refl => exact h
  | step _ ih => exact LiesE.deeper _ _ _ ih
theorem LiesS.le {w : World} {d d' : Nat} {cs : List Value} {u : Unit} (h : LiesS w d cs u) (hd : d ≤ d') : LiesS w d' cs u := by
  induction hd with
  | refl => exact h
  | step _ ih => exact LiesS.deeper _ _ _ ih

/-- a name with a type -/
structure Fld where
  name : ByteArray
  ty : Ty
/-- a declaration -/
structure Dcl where
  kind : Int
  name : ByteArray
  of : ByteArray
  value : Int
  ty : Ty
  fields : List Fld
/-- a unit -/
structure Unt where
  pkg : ByteArray
  decls : List Dcl
def LiesF (w : World) (d : Nat) (cs : List Value) (x : Fld) : Prop := ∃ c0 c1 c2 c3 c4, cs = [.string x.name, c0, c1, c2, c3, c4] ∧ Lies w d (.agg #[c0, c1, c2, c3, c4]) x.ty
def LiesD (w : World) (d : Nat) (cs : List Value) (x : Dcl) : Prop := ∃ c0 c1 c2 c3 c4 vf, cs = [.int .i64 x.kind, .string x.name, .string x.of, .int .i64 x.value, c0, c1, c2, c3, c4, vf] ∧ Lies w d (.agg #[c0, c1, c2, c3, c4]) x.ty ∧ RowG 6 (LiesF w d) w vf x.fields
def LiesB (w : World) (d : Nat) (cs : List Value) (_ : Unit) : Prop := ∃ n b p l v, ∃ s : List Unit, cs = [.string n, .bool b, .int .i64 p, .int .i64 l, v] ∧ RowG 5 (LiesS w d) w v s
def LiesU (w : World) (d : Nat) (cs : List Value) (x : Unt) : Prop := ∃ vi vd vb, ∃ li lb : List Unit, cs = [.string x.pkg, vi, vd, vb] ∧ RowG 2 (fun _ _ => True) w vi li ∧ RowG 10 (LiesD w d) w vd x.decls ∧ RowG 5 (LiesB w d) w vb lb
theorem LiesF.below {w w' : World} (hb : Below w.heap.size w w') (d : Nat) (cs : List Value) (x : Fld) (h : LiesF w d cs x) : LiesF w' d cs x := by
  obtain ⟨c0, c1, c2, c3, c4, h1, h2⟩ := h
  exact ⟨c0, c1, c2, c3, c4, h1, Lies.below hb _ _ _ h2⟩
theorem LiesD.below {w w' : World} (hb : Below w.heap.size w w') (d : Nat) (cs : List Value) (x : Dcl) (h : LiesD w d cs x) : LiesD w' d cs x := by
  obtain ⟨c0, c1, c2, c3, c4, vf, h1, h2, h3⟩ := h
  exact ⟨c0, c1, c2, c3, c4, vf, h1, Lies.below hb _ _ _ h2, h3.mono (LiesF.below hb d) hb⟩
theorem LiesB.below {w w' : World} (hb : Below w.heap.size w w') (d : Nat) (cs : List Value) (x : Unit) (h : LiesB w d cs x) : LiesB w' d cs x := by
  obtain ⟨n, b, p, l, v, s, h1, h2⟩ := h
  exact ⟨n, b, p, l, v, s, h1, h2.mono (LiesS.below hb d) hb⟩
theorem LiesU.below {w w' : World} (hb : Below w.heap.size w w') (d : Nat) (cs : List Value) (x : Unt) (h : LiesU w d cs x) : LiesU w' d cs x := by
  obtain ⟨vi, vd, vb, li, lb, h1, h2, h3, h4⟩ := h
  exact ⟨vi, vd, vb, li, lb, h1, h2.mono (fun _ _ h => h) hb, h3.mono (LiesD.below hb d) hb, h4.mono (LiesB.below hb d) hb⟩
theorem LiesF.le {w : World} {d d' : Nat} {cs : List Value} {x : Fld} (h : LiesF w d cs x) (hd : d ≤ d') : LiesF w d' cs x := by
  obtain ⟨c0, c1, c2, c3, c4, h1, h2⟩ := h
  exact ⟨c0, c1, c2, c3, c4, h1, h2.le hd⟩
theorem LiesD.le {w : World} {d d' : Nat} {cs : List Value} {x : Dcl} (h : LiesD w d cs x) (hd : d ≤ d') : LiesD w d' cs x := by
  obtain ⟨c0, c1, c2, c3, c4, vf, h1, h2, h3⟩ := h
  exact ⟨c0, c1, c2, c3, c4, vf, h1, h2.le hd, h3.mono (fun _ _ h => h.le hd) (Below.refl _ _)⟩
theorem LiesB.le {w : World} {d d' : Nat} {cs : List Value} {x : Unit} (h : LiesB w d cs x) (hd : d ≤ d') : LiesB w d' cs x := by
  obtain ⟨n, b, p, l, v, s, h1, h2⟩ := h
  exact ⟨n, b, p, l, v, s, h1, h2.mono (fun _ _ h => h.le hd) (Below.refl _ _)⟩
theorem LiesU.le {w : World} {d d' : Nat} {cs : List Value} {x : Unt} (h : LiesU w d cs x) (hd : d ≤ d') : LiesU w d' cs x := by
  obtain ⟨vi, vd, vb, li, lb, h1, h2, h3, h4⟩ := h
  exact ⟨vi, vd, vb, li, lb, h1, h2, h3.mono (fun _ _ h => h.le hd) (Below.refl _ _), h4.mono (fun _ _ h => h.le hd) (Below.refl _ _)⟩
end Go.Proofs.Ytcelpmojhjnggaa

/- Parts are counted: some number is answered, nothing old is turned. -/
namespace Go.Proofs.Ytcelpmojhjnggaa
open Go Go.RowKit Go.Sort KindsP
set_option maxHeartbeats 2000000
set_option maxRecDepth 100000

def SomeInt (w : World) (e : Ending) (w' : World) : Prop := (∃ n, e = .returned (.int .i64 n)) ∧ Below w.heap.size w w'
theorem count_some (d : Nat) : ∀ (w : World) (v : Value) (t : Ty) (m : Int), Lies w d v t → Calls Try.prog 37 #[v, .int .i64 m] w (SomeInt w) := by
  induction d with
  | zero => intro w v t m h; exact h.elim
  | succ d ih =>
  intro w v t m h
  obtain ⟨kd, p, nm, la, lr⟩ := t
  obtain ⟨va, vr, rfl, ha, hr⟩ := h
  obtain ⟨aa, ca, rfl, hca, hcm, haf⟩ := ha.form
  obtain ⟨ar, cr, rfl, hcr, hcmr, hrf⟩ := hr.form
  have HA := Lib.hid ha
  have HR := Lib.hid hr
  clear ha hr
  have hla := Nat.le_trans hca hcm
  have hlr := Nat.le_trans hcr hcmr
  unfold maxLen at hla hlr
  obtain ⟨W1, hQ⟩ : ∃ W1, W1 = w.alloc (.cells #[.int .i64 kd, .string p, .string nm, .slice aa la.length ca, .slice ar lr.length cr] 31) := ⟨_, rfl⟩
  have HB1 := Lib.hid (show W1.heap[w.heap.size]? = some (.cells #[.int .i64 kd, .string p, .string nm, .slice aa la.length ca, .slice ar lr.length cr] 31) by rw [hQ]; exact heap_alloc_new w _)
  have HW1 := Lib.hid (show Below w.heap.size w W1 by rw [hQ]; exact (Below.refl _ _).alloc (Nat.le_refl _) _)
  have HS1 := Lib.hid (show w.heap.size + 1 ≤ W1.heap.size by rw [hQ]; simp)
  have HBS : Hid (Below (w.heap.size + 1) W1 (w.alloc (.cells #[.int .i64 kd, .string p, .string nm, .slice aa la.length ca, .slice ar lr.length cr] 31))) := Lib.hid (by rw [hQ]; exact Below.refl _ _)
  clear hQ
  go_enter Try.func37, Try.ntmps37
  go_wp2_with fail
  go_loopw [5, 6] (fun nv iv wr => ∃ (k : Nat) (n : Int), k ≤ la.length ∧ iv = .int .i64 k ∧ nv = .int .i64 n ∧ Below (w.heap.size + 1) W1 wr) (fun _ iv _ => la.length - (intOf iv).toNat)
  case atStart => exact ⟨0, _, by omega, rfl, rfl, HBS.out⟩
  case round =>
    obtain ⟨k, n, hk, rfl, rfl, hb⟩ := hrel
    have hbox : wr.heap[w.heap.size]? = _ := (hb.block w.heap.size (by omega)).trans HB1.out
    have c3 : wr.cell? ⟨w.heap.size, 3, none⟩ = some (.slice aa la.length ca) := by simp [World.cell?, hbox]
    have HB := Lib.hid hb
    have HW := Lib.hid (HW1.out.trans (hb.mono (by omega)))
    clear hb hbox
    by_cases hc : k < la.length ∧ n ≤ m
    · obtain ⟨hlt, hnm⟩ := hc
      obtain ⟨b, o, rfl⟩ := haf (by omega)
      obtain ⟨x0, x1, x2, x3, x4, hl, hf⟩ := HA.out.get k la[k] (by simp)
      have hl' := Lib.hid (Lies.below HW.out _ _ _ hl)
      obtain ⟨f0, f1, f2, f3, f4⟩ := hf.below HW.out
      clear hl hf
      go_wp2_with (first | (go_at_call 37; refine (ih _ _ la[k] _ hl'.out).mono ?_; rintro e w2 ⟨⟨c, rfl⟩, hb2⟩; have HB2 := Lib.hid hb2; clear hb2))
      exact ⟨⟨k + 1, _, by omega, by go_num, rfl, HB.out.trans (HB2.out.mono (Nat.le_trans HS1.out HB.out.size))⟩, by simp [intOf]; omega⟩
    · obtain hc | ⟨hc, hd⟩ : ¬ k < la.length ∨ (k < la.length ∧ ¬ n ≤ m) := by omega
      all_goals
        go_wp2_with fail
        have HBS := HB
        clear HB HW c3 hc
        go_loopw [5, 7] (fun nv iv wr => ∃ (k : Nat) (n : Int), k ≤ lr.length ∧ iv = .int .i64 k ∧ nv = .int .i64 n ∧ Below (w.heap.size + 1) W1 wr) (fun _ iv _ => lr.length - (intOf iv).toNat)
        case atStart => exact ⟨0, _, by omega, rfl, rfl, HBS.out⟩
        case round =>
          obtain ⟨k, n, hk, rfl, rfl, hb⟩ := hrel
          have hbox : wr.heap[w.heap.size]? = _ := (hb.block w.heap.size (by omega)).trans HB1.out
          have c4 : wr.cell? ⟨w.heap.size, 4, none⟩ = some (.slice ar lr.length cr) := by simp [World.cell?, hbox]
          have HB := Lib.hid hb
          have HW := Lib.hid (HW1.out.trans (hb.mono (by omega)))
          clear hb hbox
          by_cases hc : k < lr.length ∧ n ≤ m
          · obtain ⟨hlt, hnm⟩ := hc
            obtain ⟨b, o, rfl⟩ := hrf (by omega)
            obtain ⟨x0, x1, x2, x3, x4, hl, hf⟩ := HR.out.get k lr[k] (by simp)
            have hl' := Lib.hid (Lies.below HW.out _ _ _ hl)
            obtain ⟨f0, f1, f2, f3, f4⟩ := hf.below HW.out
            clear hl hf
            go_wp2_with (first | (go_at_call 37; refine (ih _ _ lr[k] _ hl'.out).mono ?_; rintro e w2 ⟨⟨c, rfl⟩, hb2⟩; have HB2 := Lib.hid hb2; clear hb2))
            exact ⟨⟨k + 1, _, by omega, by go_num, rfl, HB.out.trans (HB2.out.mono (Nat.le_trans HS1.out HB.out.size))⟩, by simp [intOf]; omega⟩
          · obtain hc | ⟨hc, hd⟩ : ¬ k < lr.length ∨ (k < lr.length ∧ ¬ n ≤ m) := by omega
            all_goals
              go_wp2_with fail
              go_ret
              exact ⟨⟨_, rfl⟩, HW.out⟩
theorem exprs_some (d : Nat) : ∀ (w : World) (v : Value) (l : List Unit) (m : Int), RowG 4 (LiesE w d) w v l → Calls Try.prog 75 #[v, .int .i64 m] w (SomeInt w) := by
  induction d with
  | zero =>
    intro w v l m h
    obtain ⟨a, c, rfl, hcc, hcm, hf⟩ := h.form
    have h0 : l = [] := by
      cases l with
      | nil => rfl
      | cons x xs =>
        obtain ⟨b, o, rfl⟩ := hf (by simp)
        obtain ⟨cs, h0, _⟩ := h.get 0 x rfl
        exact h0.elim
    subst h0
    clear h hf
    go_enter Try.func75, Try.ntmps75
    go_wp2_with fail
    go_loopw [5, 6] (fun nv iv wr => iv = .int .i64 0 ∧ nv = .int .i64 0 ∧ wr = w) (fun _ iv _ => 0)
    case atStart => exact ⟨rfl, rfl, rfl⟩
    case round =>
      obtain ⟨rfl, rfl, rfl⟩ := hrel
      go_wp2_with fail
      go_ret
      exact ⟨⟨_, rfl⟩, Below.refl _ _⟩
  | succ d ih =>
  intro w v l m h
  obtain ⟨a, c, rfl, hcc, hcm, hf⟩ := h.form
  have hll := Nat.le_trans hcc hcm
  unfold maxLen at hll
  have HA := Lib.hid h
  clear h
  go_enter Try.func75, Try.ntmps75
  go_wp2_with fail
  go_loopw [5, 6] (fun nv iv wr => ∃ (k : Nat) (n : Int), k ≤ l.length ∧ iv = .int .i64 k ∧ nv = .int .i64 n ∧ Below w.heap.size w wr) (fun _ iv _ => l.length - (intOf iv).toNat)
  case atStart => exact ⟨0, _, by omega, rfl, rfl, Below.refl _ _⟩
  case round =>
    obtain ⟨k, n, hk, rfl, rfl, hb⟩ := hrel
    have HB := Lib.hid hb
    clear hb
    by_cases hc : k < l.length ∧ n ≤ m
    · obtain ⟨hlt, hnm⟩ := hc
      obtain ⟨b, o, rfl⟩ := hf (by omega)
      obtain ⟨cs, ⟨e0, e1, e2, e3, le, rfl, hr⟩, hcs⟩ := HA.out.get k l[k] (by simp)
      have hc3 := (HB.out.cell (World.block_lt_of_cell? w _ (hcs 3 e3 rfl))).trans (hcs 3 e3 rfl)
      obtain ⟨ax, cx, rfl, hccx, hcmx, hfx⟩ := hr.form
      have HR := Lib.hid (hr.mono (LiesE.below HB.out d) HB.out)
      clear hr hcs
      have hxx := Nat.le_trans hccx hcmx
      unfold maxLen at hxx
      by_cases hn2 : wrap64 (n + 1) ≤ m
      · go_wp2_with (first | (go_at_call 75; refine (ih _ _ le _ HR.out).mono ?_; rintro e w2 ⟨⟨c, rfl⟩, hb2⟩; have HB2 := Lib.hid hb2; clear hb2))
        exact ⟨⟨k + 1, _, by omega, by go_num, rfl, HB.out.trans (HB2.out.mono HB.out.size)⟩, by simp [intOf]; omega⟩
      · go_wp2_with fail
        exact ⟨⟨k + 1, _, by omega, by go_num, rfl, HB.out⟩, by simp [intOf]; omega⟩
    · obtain hc | ⟨hc, hd⟩ : ¬ k < l.length ∨ (k < l.length ∧ ¬ n ≤ m) := by omega
      all_goals
        go_wp2_with fail
        go_ret
        exact ⟨⟨_, rfl⟩, HB.out⟩
end Go.Proofs.Ytcelpmojhjnggaa

/- Parts of units are counted: some number is answered, nothing old is turned. -/
namespace Go.Proofs.Ytcelpmojhjnggaa
open Go Go.RowKit Go.Sort Go.Deep KindsP
set_option maxHeartbeats 4000000
set_option maxRecDepth 100000

theorem cell_on {w wx : World} {a : Addr} {v : Value} (hb : Below w.heap.size w wx) (h : w.cell? a = some v) : wx.cell? a = some v := (hb.cell (World.block_lt_of_cell? _ _ h)).trans h
theorem below_drew {w w' : World} (h : Below w.drew.heap.size w.drew w') : Below w.heap.size w w' := ⟨h.os, h.tape, h.output, h.size, h.block⟩
theorem rowG_zero {α : Type} {n : Nat} {R : List Value → α → Prop} {w : World} {v : Value} {l : List α} (h : RowG n R w v l) (hR : ∀ cs x, ¬ R cs x) : l = [] := by
  cases l with
  | nil => rfl
  | cons x xs =>
    obtain ⟨a, c, rfl, _, _, hf⟩ := h.form
    obtain ⟨b, o, rfl⟩ := hf (by simp)
    obtain ⟨cs, h0, _⟩ := h.get 0 x rfl
    exact (hR _ _ h0).elim
theorem stats_some (d : Nat) : ∀ (w : World) (v : Value) (l : List Unit) (m : Int), RowG 5 (LiesS w d) w v l → Calls Try.prog 69 #[v, .int .i64 m] w (SomeInt w) := by
  induction d with
  | zero =>
    intro w v l m h
    obtain ⟨a, c, rfl, hcc, hcm, hf⟩ := h.form
    obtain rfl := rowG_zero h (fun _ _ h => h)
    clear h hf
    go_enter Try.func69, Try.ntmps69
    go_wp2_with fail
    go_loopw [5, 6] (fun nv iv wr => iv = .int .i64 0 ∧ nv = .int .i64 0 ∧ wr = w) (fun _ iv _ => 0)
    case atStart => exact ⟨rfl, rfl, rfl⟩
    case round =>
      obtain ⟨rfl, rfl, rfl⟩ := hrel
      go_wp2_with fail
      go_ret
      exact ⟨⟨_, rfl⟩, Below.refl _ _⟩
  | succ d ih =>
  intro w v l m h
  obtain ⟨a, c, rfl, hcc, hcm, hf⟩ := h.form
  have hll := Nat.le_trans hcc hcm
  unfold maxLen at hll
  have HA := Lib.hid h
  clear h
  go_enter Try.func69, Try.ntmps69
  go_wp2_with fail
  go_loopw [5, 6] (fun nv iv wr => ∃ (k : Nat) (n : Int), k ≤ l.length ∧ iv = .int .i64 k ∧ nv = .int .i64 n ∧ Below w.heap.size w wr) (fun _ iv _ => l.length - (intOf iv).toNat)
  case atStart => exact ⟨0, _, by omega, rfl, rfl, Below.refl _ _⟩
  case round =>
    obtain ⟨k, n, hk, rfl, rfl, hb⟩ := hrel
    have HB := Lib.hid hb
    clear hb
    by_cases hc : k < l.length ∧ n ≤ m
    · obtain ⟨hlt, hnm⟩ := hc
      obtain ⟨b, o, rfl⟩ := hf (by omega)
      obtain ⟨cs, ⟨e0, e1, ve, vb, vl, le, lb, ll, rfl, hre, hrb, hrl⟩, hcs⟩ := HA.out.get k l[k] (by simp)
      obtain ⟨ae, ce, rfl, _⟩ := hre.form
      obtain ⟨ab, cb, rfl, _⟩ := hrb.form
      obtain ⟨al, cl, rfl, _⟩ := hrl.form
      have hc2 := cell_on HB.out (hcs 2 _ rfl)
      have hc3 := cell_on HB.out (hcs 3 _ rfl)
      have hc4 := cell_on HB.out (hcs 4 _ rfl)
      have HRE := Lib.hid (fun W (hb : Below w.heap.size w W) mm => exprs_some d W _ le mm (hre.mono (LiesE.below hb d) hb))
      have HRB := Lib.hid (fun W (hb : Below w.heap.size w W) mm => ih W _ lb mm (hrb.mono (LiesS.below hb d) hb))
      have HRL := Lib.hid (fun W (hb : Below w.heap.size w W) mm => ih W _ ll mm (hrl.mono (LiesS.below hb d) hb))
      clear hre hrb hrl hcs
      go_wp2_with (first | (go_at_call 75; refine (HRE.out _ HB.out _).mono ?_; rintro e w2 ⟨⟨c1, rfl⟩, hb2⟩; have HB2 := Lib.hid (HB.out.trans (hb2.mono HB.out.size)); have hc3 := cell_on hb2 hc3; have hc4 := cell_on hb2 hc4; clear hb2) | (go_at_call_of 69 (Value.slice ab lb.length cb); refine (HRB.out _ HB2.out _).mono ?_; rintro e w3 ⟨⟨c2, rfl⟩, hb2⟩; have HB3 := Lib.hid (HB2.out.trans (hb2.mono HB2.out.size)); have hc4 := cell_on hb2 hc4; clear hb2) | (go_at_call_of 69 (Value.slice al ll.length cl); refine (HRL.out _ HB3.out _).mono ?_; rintro e w4 ⟨⟨c3, rfl⟩, hb2⟩; have HB4 := Lib.hid (HB3.out.trans (hb2.mono HB3.out.size)); clear hb2))
      all_goals
        refine ⟨⟨k + 1, _, by omega, by go_num, rfl, ?_⟩, by simp [intOf]; omega⟩
        first | exact HB4.out | exact HB3.out | exact HB2.out
    · obtain hc | ⟨hc, hd⟩ : ¬ k < l.length ∨ (k < l.length ∧ ¬ n ≤ m) := by omega
      all_goals
        go_wp2_with fail
        go_ret
        exact ⟨⟨_, rfl⟩, HB.out⟩
end Go.Proofs.Ytcelpmojhjnggaa
