/- How much units hold that were handed in. -/
import Derived.Test.YtcelpmojhjnggaaH29
import Derived.Test.YtcelpmojhjnggaaH24
namespace Go.Proofs.Ytcelpmojhjnggaa
set_option maxRecDepth 100000
open Go Go.ChangeShapes Go.WideShapes Go.ChangeAt Go.RowKit KindsP

def sumM {α : Type} (m : α → Nat) : List α → Nat
  | [] => 0
  | x :: l => m x + sumM m l
theorem sumM_mem {α : Type} (m : α → Nat) : ∀ (l : List α) (x : α), x ∈ l → m x ≤ sumM m l
  | y :: l, x, h => by
    rw [sumM]
    rcases List.mem_cons.1 h with rfl | h
    · omega
    · have := sumM_mem m l x h; omega
theorem sumM_len {α : Type} (m : α → Nat) (hm : ∀ x, 80 ≤ m x) : ∀ l : List α, 80 * l.length ≤ sumM m l
  | [] => by simp
  | x :: l => by have := sumM_len m hm l; have := hm x; rw [sumM, List.length_cons]; omega
theorem sumM_all {H : Type} {α : Type} (m : α → Nat) : ∀ (l : List α) (es : List (DataW H × List MemPlace)), l.length = es.length → (∀ (i : Nat) (t : α) (y : DataW H × List MemPlace), l[i]? = some t → es[i]? = some y → m t ≤ 30 * Rows.uptoBulk y.1) → sumM m l ≤ 30 * Rows.uptoBulkAll (es.map (·.1))
  | [], [], _, _ => by rw [sumM]; omega
  | t :: l, y :: es, hl, h => by
    have h0 := h 0 t y rfl rfl
    have h1 := sumM_all m l es (by simpa using hl) (fun i t y ht hy => h (i + 1) t y (by simpa using ht) (by simpa using hy))
    rw [sumM, List.map_cons, Rows.uptoBulkAll]
    omega
  | [], _ :: _, hl, _ => by simp at hl
  | _ :: _, [], hl, _ => by simp at hl
mutual
theorem siz_bulk : ∀ t : Ty, sizT t ≤ bulkT t
  | .mk k p n la lr => by rw [sizT, bulkT]; have := sizL_bulk la; have := sizL_bulk lr; omega
theorem sizL_bulk : ∀ l : List Ty, sizL l ≤ bulkL l
  | [] => by rw [sizL, bulkL]; omega
  | x :: l => by rw [sizL, bulkL]; have := siz_bulk x; have := sizL_bulk l; omega
end
theorem bulk_pos (t : Ty) : 20 ≤ bulkT t := by cases t; rw [bulkT]; omega
def mF (x : Fld) : Nat := bulkT x.ty + 60
def mD (x : Dcl) : Nat := bulkT x.ty + sumM mF x.fields + 60
def mU (u : Unt) : Nat := sumM mD u.decls
section
variable {H : Type} {enc : TypeId × Value → H} {W : World} {base : Nat} {held : Bool} {spare : Nat → Bool}
theorem open_rowGM {α : Type} {ts t n : Nat} (hu : Try.prog.underlying ts = some (.slice t)) (hc : Try.prog.cellsOf t = n) (hn : 0 < n) (R : Nat → List Value → α → Prop) (m : α → Nat) (hR : ∀ g f cs x, g ≤ f → R g cs x → R f cs x) (f : Nat)
    (ih : ∀ g, g < f → ∀ cs x, DataW.trod enc Try.prog W base spare held g t cs = some x → ∃ y, R g cs y ∧ m y ≤ 30 * Rows.uptoBulk x.1) (cs : List Value) (x : DataW H × List MemPlace) (h : DataW.trod enc Try.prog W base spare held f ts cs = some x) :
    ∃ v, ∃ l : List α, cs = [v] ∧ RowG n (R f) W v l ∧ sumM m l ≤ 30 * Rows.uptoBulk x.1 := by
  rcases DataW.trod_slice hu h with ⟨rfl, rfl⟩ | ⟨a, len, cap, elems, rest, mm, rfl, rfl, rfl, hb, hlc, hcm, hel, hcell, _, _⟩
  · exact ⟨_, [], rfl, RowG.nil _ _ _, by rw [sumM]; omega⟩
  · obtain ⟨l, hll, hq⟩ := list_choose elems (fun i (y : α) e => (∃ cs : List Value, cs.length = n ∧ R mm cs y ∧ ∀ j, j < n → W.cell? ((a.add (i * n)).add j) = cs[j]?) ∧ m y ≤ 30 * Rows.uptoBulk e.1) (by
      intro i y hy
      have hi : i < len := by rw [← hel]; exact (List.getElem?_eq_some_iff.1 hy).1
      have hc' := hcell i hi
      rw [hy, hc] at hc'
      obtain ⟨cs, hcs, htr⟩ := Option.bind_eq_some_iff.1 hc'
      obtain ⟨_, hlen, hj⟩ := World.cells?_some hcs
      obtain ⟨y, hy', hm'⟩ := ih mm (by omega) _ _ htr
      exact ⟨y, ⟨cs, hlen, hy', hj⟩, hm'⟩)
    have hsum := sumM_all m l elems hll (fun i t y ht hy => (hq i t y ht hy).2)
    refine ⟨_, l, rfl, ⟨some a, cap, by rw [hll, hel], by omega, hcm, ?_⟩, ?_⟩
    · by_cases hne : l = []
      · exact .inl hne
      · right
        have h0 : 0 < l.length := List.length_pos_iff.2 hne
        have hpl : a.spot = none := by
          obtain ⟨⟨cs, hlen, _, hj⟩, _⟩ := hq 0 l[0] (elems[0]'(by omega)) (List.getElem?_eq_getElem h0) (List.getElem?_eq_getElem (by omega))
          have := hj 0 hn
          rw [List.getElem?_eq_getElem (by omega)] at this
          rw [show (a.add (0 * n)).add 0 = a by unfold Addr.add; simp] at this
          cases hs : a.spot with
          | none => rfl
          | some q => unfold World.cell? at this; rw [hs] at this; split at this <;> simp at this
        obtain ⟨b, o, sp⟩ := a
        obtain rfl : sp = none := hpl
        refine ⟨b, o, rfl, fun i t ht => ?_⟩
        have hi : i < l.length := (List.getElem?_eq_some_iff.1 ht).1
        obtain ⟨⟨cs, hlen, hr, hj⟩, _⟩ := hq i t (elems[i]'(by omega)) ht (List.getElem?_eq_getElem (by omega))
        refine ⟨cs, hR _ _ _ _ (by omega) hr, fun j u hu => ?_⟩
        have hjn : j < n := by rw [← hlen]; exact (List.getElem?_eq_some_iff.1 hu).1
        have := hj j hjn
        rw [addr_add, addr_add] at this
        rw [this, hu]
    · show _ ≤ 30 * Rows.uptoBulk (.slice _ _)
      rw [Rows.uptoBulk]
      omega
theorem open_FM (f : Nat) : ∀ cs x, DataW.trod enc Try.prog W base spare held f 52 cs = some x → ∃ y, LiesF W f cs y ∧ mF y ≤ 30 * Rows.uptoBulk x.1 := by
  intro cs x h
  obtain ⟨xs, n, rfl, rfl, hl, hlen, hf⟩ := DataW.trod_struct Try.underlying52 h
  rw [cells52] at hl
  obtain ⟨y0, y1, rfl⟩ := list2 (show xs.length = 2 from hlen)
  obtain ⟨c0, c1, c2, c3, c4, c5, rfl⟩ := list6 hl
  obtain ⟨s, e0, u0, _⟩ := DataW.trod_string Try.underlying9 (by have := hf 0 _ rfl; simpa [cells9] using this)
  obtain ⟨d0, d1, d2, d3, d4, t, e1, ht, hbt⟩ := opens n _ _ (by have := hf 1 _ rfl; simpa [cells31] using this)
  simp only [List.cons.injEq, and_true] at e0 e1
  obtain ⟨rfl, rfl, rfl, rfl, rfl⟩ := e1
  subst e0
  refine ⟨⟨s, t⟩, ⟨_, _, _, _, _, rfl, ht.le (Nat.le_succ _)⟩, ?_⟩
  have u0' : 1 ≤ Rows.uptoBulk y0.1 := by rw [u0, Rows.uptoBulk]; omega
  show bulkT t + 60 ≤ 30 * Rows.uptoBulk (.agg [y0.1, y1.1])
  rw [Rows.uptoBulk]
  simp only [Rows.uptoBulkAll]
  omega
theorem open_DM (f : Nat) : ∀ cs x, DataW.trod enc Try.prog W base spare held f 41 cs = some x → ∃ y, LiesD W f cs y ∧ mD y ≤ 30 * Rows.uptoBulk x.1 := by
  intro cs x h
  obtain ⟨xs, n, rfl, rfl, hl, hlen, hf⟩ := DataW.trod_struct Try.underlying41 h
  rw [cells41] at hl
  obtain ⟨y0, y1, y2, y3, y4, y5, rfl⟩ := list6 (show xs.length = 6 from hlen)
  obtain ⟨c0, c1, c2, c3, c4, c5, c6, c7, c8, c9, rfl⟩ := list10 hl
  obtain ⟨k, e0, _, _⟩ := DataW.trod_int Try.underlying3 (by have := hf 0 _ rfl; simpa [cells3] using this)
  obtain ⟨s, e1, u0, _⟩ := DataW.trod_string Try.underlying9 (by have := hf 1 _ rfl; simpa [cells9] using this)
  obtain ⟨s2, e2, _, _⟩ := DataW.trod_string Try.underlying9 (by have := hf 2 _ rfl; simpa [cells9] using this)
  obtain ⟨m, e3, _, _⟩ := DataW.trod_int Try.underlying2 (by have := hf 3 _ rfl; simpa [cells2] using this)
  obtain ⟨d0, d1, d2, d3, d4, t, e4, ht, hbt⟩ := opens n _ _ (by have := hf 4 _ rfl; simpa [cells31] using this)
  obtain ⟨v, l, e5, hr, hbl⟩ := open_rowGM (enc := enc) (base := base) (held := held) (spare := spare) Try.underlying39 cells52 (by omega) (fun g => LiesF W g) mF (fun g f cs x hgf h => h.le hgf) n (fun g hg => open_FM g) _ _ (by have := hf 5 _ rfl; simpa [cells39] using this)
  simp only [List.cons.injEq, and_true] at e0 e1 e2 e3 e4 e5
  obtain ⟨rfl, rfl, rfl, rfl, rfl⟩ := e4
  subst e0 e1 e2 e3 e5
  refine ⟨⟨k, s, s2, m, t, l⟩, ⟨_, _, _, _, _, _, rfl, ht.le (Nat.le_succ _), hr.mono (fun _ _ h => h.le (Nat.le_succ _)) (Below.refl _ _)⟩, ?_⟩
  have u0' : 1 ≤ Rows.uptoBulk y1.1 := by rw [u0, Rows.uptoBulk]; omega
  show bulkT t + sumM mF l + 60 ≤ 30 * Rows.uptoBulk (.agg [y0.1, y1.1, y2.1, y3.1, y4.1, y5.1])
  rw [Rows.uptoBulk]
  simp only [Rows.uptoBulkAll]
  omega
theorem open_UM (f : Nat) : ∀ cs x, DataW.trod enc Try.prog W base spare held f 74 cs = some x → ∃ y, LiesU W f cs y ∧ mU y ≤ 30 * Rows.uptoBulk x.1 := by
  intro cs x h
  obtain ⟨xs, n, rfl, rfl, hl, hlen, hf⟩ := DataW.trod_struct Try.underlying74 h
  rw [cells74] at hl
  obtain ⟨y0, y1, y2, y3, rfl⟩ := list4 (show xs.length = 4 from hlen)
  obtain ⟨c0, c1, c2, c3, rfl⟩ := list4 hl
  obtain ⟨s, e0, _, _⟩ := DataW.trod_string Try.underlying9 (by have := hf 0 _ rfl; simpa [cells9] using this)
  obtain ⟨v1, l1, e1, hr1⟩ := open_rowG (α := Unit) (enc := enc) (base := base) (held := held) (spare := spare) Try.underlying70 (rfl : Try.prog.cellsOf _ = Try.prog.cellsOf _) (by decide +kernel) (fun _ _ _ => True) (fun g f cs x hgf h => h) n (fun g hg _ _ _ => ⟨(), trivial⟩) _ _ (by have := hf 1 _ rfl; simpa [cells70] using this)
  obtain ⟨v2, l2, e2, hr2, hbl⟩ := open_rowGM (enc := enc) (base := base) (held := held) (spare := spare) Try.underlying71 cells41 (by omega) (fun g => LiesD W g) mD (fun g f cs x hgf h => h.le hgf) n (fun g hg => open_DM g) _ _ (by have := hf 2 _ rfl; simpa [cells71] using this)
  obtain ⟨v3, l3, e3, hr3⟩ := open_rowG (enc := enc) (base := base) (held := held) (spare := spare) Try.underlying72 cells103 (by omega) (fun g => LiesB W g) (fun g f cs x hgf h => h.le hgf) n (fun g hg => open_B g) _ _ (by have := hf 3 _ rfl; simpa [cells72] using this)
  simp only [List.cons.injEq, and_true] at e0 e1 e2 e3
  subst e0 e1 e2 e3
  refine ⟨⟨s, l2⟩, ⟨_, _, _, l1, l3, rfl, hr1, hr2.mono (fun _ _ h => h.le (Nat.le_succ _)) (Below.refl _ _), hr3.mono (fun _ _ h => h.le (Nat.le_succ _)) (Below.refl _ _)⟩, ?_⟩
  show sumM mD l2 ≤ 30 * Rows.uptoBulk (.agg [y0.1, y1.1, y2.1, y3.1])
  rw [Rows.uptoBulk]
  simp only [Rows.uptoBulkAll]
  omega
theorem open_unitsM {r : Reach} {b0 : Nat} {v : Value} {d : DataW H} {p : List MemPlace} (hv : Value.okWide Try.prog W r b0 37 v) (h : DataW.Trod enc Try.prog W base spare held 37 v d p) : ∃ D, ∃ l : List Unt, RowG 4 (LiesU W D) W v l ∧ sumM mU l ≤ 30 * Rows.uptoBulk d := by
  obtain ⟨a, n, c, rfl⟩ := okWide_slice Try.underlying37 hv
  obtain ⟨fuel, hf⟩ := h
  obtain ⟨v', l, he, hr, hs⟩ := open_rowGM Try.underlying37 cells74 (by omega) (fun g => LiesU W g) mU (fun g f cs x hgf h => h.le hgf) fuel (fun g _ => open_UM g) _ _ hf
  have : v' = .slice a n c := by simpa [Value.cells] using he.symm
  subst this
  exact ⟨fuel, l, hr, hs⟩
end
/-! ### What is found is a part of it -/
theorem unitF_mem : ∀ (us : List Unt) (p : ByteArray) (u : Unt), unitF us p = some u → u ∈ us
  | x :: us, p, u, h => by
    rw [unitF] at h
    split at h
    · simp at h; subst h; exact List.mem_cons_self ..
    · exact List.mem_cons_of_mem _ (unitF_mem us p u h)
theorem findD_mem : ∀ (ds : List Dcl) (n : ByteArray) (x : Dcl), findD ds n = some x → x ∈ ds
  | y :: ds, n, x, h => by
    rw [findD] at h
    split at h
    · simp at h; subst h; exact List.mem_cons_self ..
    · exact List.mem_cons_of_mem _ (findD_mem ds n x h)
theorem decls_le (us : List Unt) (p : ByteArray) : sumM mD (declsO (unitF us p)) ≤ sumM mU us := by
  cases h : unitF us p with
  | none => rw [declsO, sumM]; omega
  | some u => exact sumM_mem mU us u (unitF_mem us p u h)
theorem mOf_le (n : ByteArray) : ∀ ds : List Dcl, sumM mF (mOf n ds) ≤ sumM mD ds
  | [] => by rw [mOf, sumM, sumM]; omega
  | x :: ds => by
    have := mOf_le n ds
    rw [mOf, sumM]
    split
    · rw [sumM]
      have e1 : mF ⟨x.name, x.ty⟩ = bulkT x.ty + 60 := rfl
      have e2 : mD x = bulkT x.ty + sumM mF x.fields + 60 := rfl
      omega
    · omega
theorem baseL_le (us : List Unt) (k : Int) (p n : ByteArray) : sumM mF (baseL us k p n) ≤ sumM mU us := by
  unfold baseL
  split
  · exact Nat.le_trans (mOf_le n _) (decls_le us p)
  · split
    · split
      · cases h : findU us p n with
        | none => show sumM mF [] ≤ _; rw [sumM]; omega
        | some x =>
          have h1 := sumM_mem mD _ x (findD_mem _ n x h)
          have h2 := decls_le us p
          show sumM mF x.fields ≤ _
          have e2 : mD x = bulkT x.ty + sumM mF x.fields + 60 := rfl
          omega
      · rw [sumM]; omega
    · rw [sumM]; omega
theorem KindsMethods_any (w : World) (D0 D1 D2 : Nat) (v0 v1 v2 : Value) (us : List Unt) (vars : List Fld) (t : Ty) (h : RowG 4 (LiesU w D0) w v0 us) (hv : RowG 6 (LiesF w D1) w v1 vars) (ht : Lies w D2 v2 t) (hb : sumM mU us ≤ 31457280) :
    Calls Try.prog 8 #[v0, v1, v2] w fun e w' => e = .returned (.bool true) ∧ Below w.heap.size w w' := by
  obtain ⟨x0, x1, x2, x3, x4, rfl⟩ := lies_five ht
  obtain ⟨_, _, _, _, _, _, _, _, _, rfl, rfl, rfl, rfl, rfl⟩ := lies_form ht
  refine KindsMethods_x (D0 + D1) D2 w v0 v1 us vars _ _ _ _ _ _ _ _ _ t (h.mono (fun _ _ h => h.le (by omega)) (Below.refl _ _)) (hv.mono (fun _ _ h => h.le (by omega)) (Below.refl _ _)) ht (fun k p n => ?_) (fun k p n x hx => ?_)
  · have h1 := baseL_le us k p n
    have h2 := sumM_len mF (fun x => by unfold mF; have := bulk_pos x.ty; omega) (baseL us k p n)
    omega
  · have h1 := baseL_le us k p n
    have h2 := sumM_mem mF _ x hx
    have h3 := siz_bulk x.ty
    have e1 : mF x = bulkT x.ty + 60 := rfl
    omega
end Go.Proofs.Ytcelpmojhjnggaa
