/- The walks of the document's place, of and ready. -/
import Derived.Test.YtfhmfdmcdmcaiaaC1
namespace Go.Proofs.Ytfhmfdmcdmcaiaa
open Go Go.RowKit Go.Sort
set_option maxHeartbeats 4000000
set_option maxRecDepth 100000

theorem bytes_ne {a b : ByteArray} (h : a ≠ b) : a.toList ≠ b.toList := fun e => h ((Lib.bytes_beq_iff _ _).1 (by rw [e]; simp))
theorem place23 (w0 : World) (vn : Value) (nm : List ByteArray) (s : ByteArray) (hn : StrRow w0 vn nm) :
    Calls Try.prog 23 #[vn, .string s] w0 fun e w' => e = .returned (.int .i64 (Lib.idxOfS nm s)) ∧ w' = w0 := by
  obtain ⟨an, cn, rfl, hn1, hn2, hn3⟩ := hn
  have HN3 := Lib.hid hn3
  unfold maxLen at hn2
  clear hn3
  obtain ⟨r, hr⟩ : ∃ r, Lib.idxOfS nm s = r := ⟨_, rfl⟩
  have HR := Lib.hid hr
  rw [hr]
  clear hr
  go_enter Try.func23, Try.ntmps23
  go_wp2_with fail
  go_loopw [5] (fun iv5 wr => ∃ (i : Nat), i ≤ nm.length ∧ iv5 = iv i ∧ Hid (wr = w0) ∧ Hid (∀ k, k < i → nm.getD k ByteArray.empty ≠ s)) (fun iv5 _ => nm.length - (intOf iv5).toNat)
  case atStart => exact ⟨0, by omega, rfl, Lib.hid rfl, Lib.hid (fun k hk => by omega)⟩
  case round =>
    obtain ⟨i, hi, rfl, HW, HB⟩ := hrel
    obtain rfl := HW.out
    by_cases hil : i < nm.length
    · have hi1 : (i : Int) < (nm.length : Int) := by omega
      rcases HN3.out with h0 | ⟨bn, on, rfl, hcn⟩
      · rw [h0] at hil; simp at hil
      obtain ⟨x, hx⟩ : ∃ x, nm[i]? = some x := ⟨_, List.getElem?_eq_getElem hil⟩
      have f0 := hcn i x hx
      have hgx : nm.getD i ByteArray.empty = x := by rw [List.getD_eq_getElem?_getD, hx]; rfl
      have HX := Lib.hid hgx
      clear hx hcn hgx
      by_cases hxs : x = s
      · have hb : (x.toList == s.toList) = true := by rw [hxs]; simp
        have HRI : Hid (r = (i : Int)) := Lib.hid (by
          have := Lib.idxOfS_hit nm nm.length i s hil (Nat.le_refl _) (HX.out.trans hxs) HB.out
          rw [List.take_length] at this
          rw [← HR.out, this])
        clear hxs
        go_wp2_with fail
        go_ret
        rw [HRI.out]
        exact ⟨rfl, rfl⟩
      · have hb : (x.toList == s.toList) = false := by simpa using bytes_ne hxs
        have HXS := Lib.hid hxs
        clear hxs
        go_wp2_with fail
        refine ⟨⟨i + 1, by omega, by go_num, by first | exact Lib.hid rfl | exact Lib.hid trivial, Lib.hid (fun k hk => ?_)⟩, by simp [intOf]; omega⟩
        by_cases e : k = i
        · rw [e, HX.out]; exact HXS.out
        · exact HB.out k (by omega)
    · obtain rfl : i = nm.length := by omega
      have HRI : Hid (r = -1) := Lib.hid (by
        have := Lib.idxOfS_miss nm nm.length s HB.out
        rw [List.take_length] at this
        rw [← HR.out, this])
      go_wp2_with fail
      go_ret
      rw [HRI.out]
      exact ⟨rfl, rfl⟩
theorem NStr.row {w : World} {a : Option Addr} {n c : Nat} {l : List (List ByteArray)} (h : NStr w (.slice a n c) l) (i : Nat) (x : List ByteArray) (hx : l[i]? = some x) : ∃ b o u, a = some ⟨b, o, none⟩ ∧ w.cell? ⟨b, o + i, none⟩ = some u ∧ StrRow w u x := by
  obtain ⟨a', c', h1, h2, h3, h4⟩ := h
  simp only [Value.slice.injEq] at h1
  obtain ⟨rfl, _, rfl⟩ := h1
  rcases h4 with h4 | ⟨b, o, rfl, h5⟩
  · rw [h4] at hx; simp at hx
  · obtain ⟨u, h6, h7⟩ := h5 i x hx
    exact ⟨b, o, u, rfl, h6, h7⟩
theorem of24 (w0 : World) (vd : Value) (needs : List (List ByteArray)) (i : Nat) (hd : NStr w0 vd needs) :
    Calls Try.prog 24 #[vd, iv i] w0 fun e w' => ∃ u, e = .returned u ∧ StrRow w0 u (needOf needs i) ∧ w' = w0 := by
  have HD := Lib.hid hd
  obtain ⟨ad, cd, rfl, hd1, hd2, hd3⟩ := hd
  clear hd3
  by_cases hil : i < needs.length
  · have hi1 : (i : Int) < (needs.length : Int) := by omega
    obtain ⟨ss, hss⟩ : ∃ ss, needs[i]? = some ss := ⟨_, List.getElem?_eq_getElem hil⟩
    obtain ⟨b, o, u, rfl, f0, hs⟩ := HD.out.row i ss hss
    have hno : needOf needs i = ss := by unfold needOf; rw [List.getD_eq_getElem?_getD, hss]; rfl
    rw [hno]
    have HS := Lib.hid hs
    clear hss hno hs
    go_enter Try.func24, Try.ntmps24
    go_wp2_with fail
    go_ret
    exact ⟨_, rfl, HS.out, rfl⟩
  · have hi1 : ¬ (i : Int) < (needs.length : Int) := by omega
    have hno : needOf needs i = [] := by unfold needOf; rw [List.getD_eq_getElem?_getD, List.getElem?_eq_none (by omega)]; rfl
    rw [hno]
    clear hno
    go_enter Try.func24, Try.ntmps24
    go_wp2_with fail
    go_ret
    exact ⟨_, rfl, ⟨none, 0, rfl, Nat.le_refl _, by unfold maxLen; omega, .inl rfl⟩, rfl⟩
/-- which ones are there -/
def There (w : World) (T n : Nat) (out : List Nat) : Prop := ∃ cs, w.heap[T]? = some (.cells cs 4) ∧ cs.size = n ∧ ∀ k, k < n → cs[k]? = some (.bool (out.contains k))
theorem There.cell {w : World} {T n : Nat} {out : List Nat} (h : There w T n out) (k : Nat) (hk : k < n) : w.cell? ⟨T, k, none⟩ = some (.bool (out.contains k)) := by
  obtain ⟨cs, h1, h2, h3⟩ := h
  exact cell_of h1 (h3 k hk)
theorem idx_lt {nm : List ByteArray} {s : ByteArray} : Lib.idxOfS nm s < (nm.length : Int) := by
  have gen : ∀ (zs : List ByteArray) (i : Nat), Lib.idxFromS zs s i < (i : Int) + (zs.length : Int) ∨ Lib.idxFromS zs s i = -1 := by
    intro zs
    induction zs with
    | nil => intro i; exact .inr rfl
    | cons z zs ih =>
      intro i
      rw [Lib.idxFromS]
      split
      · left; simp; omega
      · rcases ih (i + 1) with h | h
        · left; simp at h ⊢; omega
        · exact .inr h
  rcases gen nm 0 with h | h
  · unfold Lib.idxOfS; simpa using h
  · unfold Lib.idxOfS; rw [h]; omega
theorem ready25 (w0 : World) (vn vl : Value) (nm ss : List ByteArray) (T c : Nat) (out : List Nat) (hn : StrRow w0 vn nm) (hl : StrRow w0 vl ss) (ht : There w0 T nm.length out) (hg : badRow nm ss = false) :
    Calls Try.prog 25 #[vn, vl, .slice (some ⟨T, 0, none⟩) nm.length c] w0 fun e w' => e = .returned (.bool ((ids nm ss).all fun x => out.contains x.toNat)) ∧ w' = w0 := by
  have HP := Lib.hid (fun s => place23 w0 vn nm s hn)
  have HT := Lib.hid ht
  obtain ⟨al, cl, rfl, hl1, hl2, hl3⟩ := hl
  have HL3 := Lib.hid hl3
  unfold maxLen at hl2
  have HG : Hid (∀ s ∈ ss, 0 ≤ Lib.idxOfS nm s) := Lib.hid (fun s hs => by
    unfold badRow at hg
    rw [List.any_eq_false] at hg
    have := hg s hs
    simp at this
    exact this)
  obtain ⟨r, hr⟩ : ∃ r, ((ids nm ss).all fun x => out.contains x.toNat) = r := ⟨_, rfl⟩
  have HR := Lib.hid hr
  rw [hr]
  clear hl3 hr ht hg hn
  go_enter Try.func25, Try.ntmps25
  go_wp2_with fail
  go_loopw [7] (fun iv7 wr => ∃ (i : Nat), i ≤ ss.length ∧ iv7 = iv i ∧ Hid (wr = w0) ∧ Hid (∀ k, k < i → ∀ s, ss[k]? = some s → out.contains (Lib.idxOfS nm s).toNat = true)) (fun iv7 _ => ss.length - (intOf iv7).toNat)
  case atStart => exact ⟨0, by omega, rfl, Lib.hid rfl, Lib.hid (fun k hk => by omega)⟩
  case round =>
    obtain ⟨i, hi, rfl, HW, HB⟩ := hrel
    obtain rfl := HW.out
    by_cases hil : i < ss.length
    · have hi1 : (i : Int) < (ss.length : Int) := by omega
      rcases HL3.out with h0 | ⟨bn, on, rfl, hcn⟩
      · rw [h0] at hil; simp at hil
      obtain ⟨x, hx⟩ : ∃ x, ss[i]? = some x := ⟨_, List.getElem?_eq_getElem hil⟩
      have f0 := hcn i x hx
      obtain ⟨k, hk⟩ : ∃ k : Nat, Lib.idxOfS nm x = k := ⟨(Lib.idxOfS nm x).toNat, by have := HG.out x (List.mem_of_getElem? hx); omega⟩
      have hkl : k < nm.length := by have := idx_lt (nm := nm) (s := x); omega
      have hkl1 : (k : Int) < (nm.length : Int) := by omega
      have HPX := Lib.hid (HP.out x)
      rw [hk] at HPX
      obtain ⟨b, hb⟩ : ∃ b, out.contains k = b := ⟨_, rfl⟩
      have f1 := HT.out.cell k hkl
      rw [hb] at f1
      have HX := Lib.hid (And.intro hx (And.intro hk hb))
      clear hx hk hb hcn
      cases b with
      | false =>
        have HRI : Hid (r = false) := Lib.hid (by
          rw [← HR.out, List.all_eq_false]
          refine ⟨Lib.idxOfS nm x, List.mem_map.2 ⟨x, List.mem_of_getElem? HX.out.1, rfl⟩, ?_⟩
          rw [HX.out.2.1]
          have := HX.out.2.2
          simp at this ⊢
          exact this)
        go_wp2_with (first | (go_at_call 23; refine HPX.out.mono ?_; rintro e w6 ⟨rfl, hw6⟩; obtain rfl := hw6.symm))
        go_ret
        rw [HRI.out]
        exact ⟨rfl, rfl⟩
      | true =>
        go_wp2_with (first | (go_at_call 23; refine HPX.out.mono ?_; rintro e w6 ⟨rfl, hw6⟩; obtain rfl := hw6.symm))
        refine ⟨⟨i + 1, by omega, by go_num, by first | exact Lib.hid rfl | exact Lib.hid trivial, Lib.hid (fun j hj s hs => ?_)⟩, by simp [intOf]; omega⟩
        by_cases e : j = i
        · rw [e, HX.out.1] at hs
          obtain rfl := Option.some.inj hs
          rw [HX.out.2.1]
          exact HX.out.2.2
        · exact HB.out j (by omega) s hs
    · obtain rfl : i = ss.length := by omega
      have HRI : Hid (r = true) := Lib.hid (by
        rw [← HR.out, List.all_eq_true]
        intro x hx
        obtain ⟨s, hs, rfl⟩ := List.mem_map.1 hx
        obtain ⟨k, hk, e⟩ := List.getElem_of_mem hs
        exact HB.out k hk s (by rw [List.getElem?_eq_getElem hk, e]))
      go_wp2_with fail
      go_ret
      rw [HRI.out]
      exact ⟨rfl, rfl⟩
theorem ready_once (nm ss : List ByteArray) (out : List Nat) : ((once (ids nm ss)).all fun x => out.contains x.toNat) = ((ids nm ss).all fun x => out.contains x.toNat) := by
  rw [Bool.eq_iff_iff, List.all_eq_true, List.all_eq_true]
  constructor
  · intro h x hx; exact h x ((once_mem _ _).2 hx)
  · intro h x hx; exact h x ((once_mem _ _).1 hx)
end Go.Proofs.Ytfhmfdmcdmcaiaa
