/- What the frame of each law needs: the table that is listed, the door's own heap, an instruction handed in. -/
import Derived.Test.YtpgooplokmemnaaDoorB3
import Derived.Test.YtpgooplokmemnaaDoorRows
import Derived.ProofKit
import Derived.LaidMore
import Derived.OpenShut
import Derived.Stop.Joined
import Derived.Lib.LaidTab
import Derived.Below
namespace Go.Proofs.YtpgooplokmemnaaDoor
open Go Go.ChangeShapes Go.WideShapes Go.ChangeAt Go.RowKit

theorem own : ownKnob Tryd.prog.godebug = none := by kernel_rfl
theorem laidOut : laidOutB Tryd.prog = true := by kernel_rfl
theorem gT : Tryd.prog.globalNamed "internal/strconv.uint64pow10" = some 0 := by kernel_rfl
theorem tabD : Rows.laid_internal_strconv_uint64pow10 = Lib.tabData .u64 Lib.pow10Tab (H := Unit) := rfl
theorem array5 {α : Type} {cs : Array α} (h : cs.size = 5) : ∃ c0 c1 c2 c3 c4, cs = #[c0, c1, c2, c3, c4] := by
  obtain ⟨l⟩ := cs
  match l, h with
  | [c0, c1, c2, c3, c4], _ => exact ⟨c0, c1, c2, c3, c4, rfl⟩
theorem open_inst {H : Type} {enc : TypeId × Value → H} {W : World} {r : Reach} {b0 base : Nat} {spare : Bool} {held : Nat → Bool} {v : Value} {d : DataW H} {p : List MemPlace}
    (hv : Value.okWide Tryd.prog W r b0 23 v) (h : DataW.Trod enc Tryd.prog W base held spare 23 v d p) : ∃ o a b c i : Int, v = .agg #[.int .i64 o, .int .i64 a, .int .i64 b, .int .i64 c, .int .i64 i] := by
  obtain ⟨cs, rfl, hsz⟩ := okWide_struct Tryd.underlying23 hv
  obtain ⟨c0, c1, c2, c3, c4, rfl⟩ := array5 (hsz.trans (by kernel_rfl))
  obtain ⟨fuel, hf⟩ := h
  obtain ⟨xs, n, _, _, _, hlen, hf⟩ := DataW.trod_struct Tryd.underlying23 hf
  match xs, hlen with
  | [y0, y1, y2, y3, y4], _ =>
    have e3 : Tryd.prog.cellsOf 3 = 1 := by kernel_rfl
    have e2 : Tryd.prog.cellsOf 2 = 1 := by kernel_rfl
    obtain ⟨k0, f0, _⟩ := DataW.trod_int Tryd.underlying3 (by have := hf 0 _ rfl; simpa [e3, Value.cells] using this)
    obtain ⟨k1, f1, _⟩ := DataW.trod_int Tryd.underlying3 (by have := hf 1 _ rfl; simpa [e3, Value.cells] using this)
    obtain ⟨k2, f2, _⟩ := DataW.trod_int Tryd.underlying3 (by have := hf 2 _ rfl; simpa [e3, Value.cells] using this)
    obtain ⟨k3, f3, _⟩ := DataW.trod_int Tryd.underlying3 (by have := hf 3 _ rfl; simpa [e3, Value.cells] using this)
    obtain ⟨k4, f4, _⟩ := DataW.trod_int Tryd.underlying2 (by have := hf 4 _ rfl; simpa [e2, Value.cells] using this)
    simp only [List.cons.injEq, and_true] at f0 f1 f2 f3 f4
    subst f0 f1 f2 f3 f4
    exact ⟨k0, k1, k2, k3, k4, rfl⟩
theorem door_met (os : Os) (args : Array Value) : laidMetH Tryd.prog Rows.isaUsesRow.laid ((World.doorLaid Tryd.prog 400 os).forCall (fun _ _ => 0) ⟨#[], args, []⟩).memory :=
  laidMetH_of_parts3 (fuel := 8) (laidMet_of_run' 8 (by kernel_rfl) (by kernel_rfl)) (by kernel_rfl) (by kernel_rfl)
theorem tab_of_laid {W : World} (h : laidMetH Tryd.prog Rows.isaUsesRow.laid W) : Tab W := by
  rw [MakeChecks.laidMetH_plain _ _ _ (by kernel_rfl)] at h
  obtain ⟨ps, ⟨g0, t0, cs0, u0, p0, q0, hg0, ht0, hv0, hd0, ⟨g1, t1, cs1, u1, p1, q1, hg1, ht1, hv1, hd1, ⟨g2, t2, cs2, u2, p2, q2, hg2, ht2, hv2, hd2, _, _⟩, _⟩, _⟩, _, _⟩ := h
  obtain rfl := Option.some.inj (gT.symm.trans hg2)
  obtain rfl := Option.some.inj ((show (Tryd.prog.globals[0]?).map (·.type) = some 78 by kernel_rfl).symm.trans ht2)
  unfold Tab Lib.TabIs
  rw [hv2, ← Lib.cells_of_tab Tryd.underlying78 Tryd.underlying56 (by kernel_rfl) (by kernel_rfl) hd2]
end Go.Proofs.YtpgooplokmemnaaDoor
