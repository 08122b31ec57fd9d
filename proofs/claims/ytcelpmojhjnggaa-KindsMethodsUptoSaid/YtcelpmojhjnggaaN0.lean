/- The document's place. -/
import Derived.Test.YtcelpmojhjnggaaL4
namespace Go.Proofs.Ytcelpmojhjnggaa
open Go Go.RowKit Go.Sort Go.Deep KindsP
set_option maxHeartbeats 2000000
set_option maxRecDepth 100000

theorem toList_ne {z x : ByteArray} (h : z ≠ x) : ¬ z.toList = x.toList := by
  intro e
  rw [Lib.toList_data, Lib.toList_data] at e
  exact h (ByteArray.ext (Array.toList_inj.1 e))
theorem place_any (w : World) (v : Value) (zs : List ByteArray) (h : NamesIs w v zs) (x : ByteArray) : Calls Try.prog 41 #[v, .string x] w fun e w' => e = .returned (.int .i64 (Lib.idxOfS zs x)) ∧ w' = w := by
  obtain ⟨⟨a, c, rfl, h2, h3⟩, _⟩ := h
  have H3 := Lib.hid h3
  clear h3
  go_enter Try.func41, Try.ntmps41
  go_wp2_with fail
  go_loopw [5] (fun iv wr => ∃ k : Nat, k ≤ zs.length ∧ iv = .int .i64 k ∧ Hid (∀ j, j < k → zs.getD j ByteArray.empty ≠ x) ∧ wr = w) (fun iv _ => zs.length - (intOf iv).toNat)
  case atStart => exact ⟨0, by omega, rfl, Lib.hid (by intro j hj; omega), rfl⟩
  case round =>
    obtain ⟨k, hk, rfl, HN, rfl⟩ := hrel
    by_cases hlt : k < zs.length
    · obtain h0 | ⟨b, o, rfl, h6⟩ := H3.out
      · rw [h0] at hlt; simp at hlt
      have hc := h6 k hlt
      obtain ⟨z, hz⟩ : ∃ z, zs.getD k ByteArray.empty = z := ⟨_, rfl⟩
      rw [hz] at hc
      have HZ := Lib.hid hz
      clear hz h6
      by_cases hx : z = x
      · subst hx
        go_wp2_with fail
        go_ret
        refine ⟨?_, rfl⟩
        have := Lib.idxOfS_hit zs zs.length k z hlt (Nat.le_refl _) HZ.out HN.out
        rw [List.take_length] at this
        rw [this]; rfl
      · have hne : (z.toList == x.toList) = false := by simpa using toList_ne hx
        have hx' := Lib.hid hx
        clear hx
        go_wp2_with fail
        refine ⟨⟨k + 1, by omega, by go_num, Lib.hid (fun j hj => ?_), trivial⟩, by simp [intOf]; omega⟩
        by_cases hjk : j = k
        · subst hjk; rw [HZ.out]; exact hx'.out
        · exact HN.out j (by omega)
    · obtain rfl : k = zs.length := by omega
      go_wp2_with fail
      go_ret
      refine ⟨?_, rfl⟩
      have := Lib.idxOfS_miss zs zs.length x HN.out
      rw [List.take_length] at this
      rw [this]; rfl
end Go.Proofs.Ytcelpmojhjnggaa
