/- KindsBack: for any type that lies in memory. -/
import Derived.Test.YtcelpmojhjnggaaM1
namespace Go.Proofs.Ytcelpmojhjnggaa
open Go Go.RowKit Go.Sort Go.Deep KindsP
theorem lies_kd {w : World} {d : Nat} {kt : Int} {x1 x2 x3 x4 : Value} {t : Ty} (h : Lies w d (.agg #[.int .i64 kt, x1, x2, x3, x4]) t) : Ty.kd t = kt := by
  cases d with
  | zero => exact h.elim
  | succ d =>
  obtain ⟨k, p, n, la, lr⟩ := t
  obtain ⟨va, vr, h1, h2, h3⟩ := h
  simp at h1
  show k = kt
  exact h1.1.symm
theorem KindsBack_any (name : ByteArray) (v : Value) (d : Nat) (t : Ty) (x : Int) (w : World) (hname : name.size ≤ maxLen) (hl : Lies w d v t) (hx : (Lit.int IntKind.u8 x).wf = true) :
    Calls Try.prog 7 #[.string name, v, .int .u8 x] w fun e w' => e = .returned (.bool true) ∧ Below w.heap.size w w' := by
  obtain ⟨x0, x1, x2, x3, x4, rfl⟩ := lies_five hl
  obtain ⟨_, _, _, _, _, _, _, _, _, rfl, rfl, rfl, rfl, rfl⟩ := lies_form hl
  have h0 : 0 ≤ x ∧ x ≤ 255 := by
    simp [Lit.wf] at hx
    have h1 : IntKind.u8.min = 0 := by decide
    have h2 : IntKind.u8.max = 255 := by decide
    omega
  exact KindsBack_x w d _ _ _ _ _ _ _ _ _ _ t x h0.1 h0.2 hname (lies_kd hl) hl
end Go.Proofs.Ytcelpmojhjnggaa
