/- What the frame of each law needs: names and rows of types that were handed in. -/
import Derived.Test.YtcelpmojhjnggaaG0
import Derived.Test.YtcelpmojhjnggaaK8
import Derived.SliceStrings
namespace Go.Proofs.Ytcelpmojhjnggaa
set_option maxRecDepth 100000
open Go Go.ChangeShapes Go.WideShapes Go.ChangeAt Go.RowKit KindsP

section
variable {H : Type} {enc : TypeId × Value → H} {W : World} {base : Nat} {held : Bool} {spare : Nat → Bool}
theorem open_tys {r : Reach} {b0 : Nat} {v : Value} {d : DataW H} {p : List MemPlace} (hv : Value.okWide Try.prog W r b0 23 v) (h : DataW.Trod enc Try.prog W base spare held 23 v d p) : ∃ D l, RowOf (Lies W D) W v l := by
  obtain ⟨a, n, c, rfl⟩ := okWide_slice Try.underlying23 hv
  obtain ⟨fuel, hf⟩ := h
  obtain ⟨v', l, he, hr, _⟩ := open_row_ty fuel (fun g _ => opens g) _ _ hf
  have : v' = .slice a n c := by simpa [Value.cells] using he.symm
  subst this
  exact ⟨fuel, l, hr⟩
theorem open_names {r : Reach} {b0 : Nat} {v : Value} {d : DataW H} {p : List MemPlace} (hv : Value.okWide Try.prog W r b0 22 v) (h : DataW.Trod enc Try.prog W base spare held 22 v d p) : ∃ ns, NamesIs W v ns := by
  obtain ⟨a, n, c, rfl⟩ := okWide_slice Try.underlying22 hv
  obtain ⟨fuel, hf⟩ := h
  rcases open_strings Try.underlying22 Try.underlying9 (by kernel_rfl) hf with ⟨hcs, _⟩ | ⟨a', n', c', ss, hcs, _, hl, hm, hz, _, hcell, hsz⟩
  · simp [Value.cells] at hcs
    obtain ⟨rfl, rfl, rfl⟩ := hcs
    exact ⟨[], ⟨none, 0, rfl, by simp, .inl rfl⟩, by simp⟩
  · simp [Value.cells] at hcs
    obtain ⟨rfl, rfl, rfl⟩ := hcs
    have hle : n ≤ ss.length := by rw [hz]; split <;> omega
    have hlen : (ss.take n).length = n := by rw [List.length_take]; omega
    refine ⟨ss.take n, ⟨some a', c, by rw [hlen], ?_, ?_⟩, fun s hs => hsz s (List.mem_of_mem_take hs)⟩
    · rw [hlen]; unfold maxLen at hm; omega
    · rw [hlen]
      by_cases h0 : n = 0
      · left; rw [h0]; rfl
      · right
        obtain ⟨b, o, sp⟩ := a'
        have hc0 := hcell 0 (by omega)
        rw [show (⟨b, o, sp⟩ : Addr).add 0 = ⟨b, o, sp⟩ by unfold Addr.add; simp] at hc0
        have hs : sp = none := by
          cases sp with
          | none => rfl
          | some q => unfold World.cell? at hc0; split at hc0 <;> simp at hc0
        subst hs
        refine ⟨b, o, rfl, fun j hj => ?_⟩
        have := hcell j (by omega)
        rw [addr_add] at this
        rw [this, List.getD_eq_getElem?_getD, List.getD_eq_getElem?_getD, List.getElem?_take_of_lt hj]
end
end Go.Proofs.Ytcelpmojhjnggaa
