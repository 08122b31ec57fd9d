/- The walk of awake: the document's example. -/
import Derived.Test.YtcelpmojhjnggaaI10
namespace Go.Proofs.Ytcelpmojhjnggaa
open Go Go.RowKit Go.Sort Go.Maps Go.WideMaps KindsP
set_option maxHeartbeats 2000000
set_option maxRecDepth 100000

abbrev E0 : ByteArray := ⟨#[]⟩
abbrev cT (k : Int) (n : ByteArray) (a r : Value) : Obj := .cells #[.int .i64 k, .string E0, .string n, a, r] 31
abbrev nl : Value := .slice none 0 0
theorem row_nil (R : Value → Ty → Prop) (w : World) : RowOf R w (.slice none 0 0) [] := ⟨none, 0, rfl, by simp, by unfold maxLen; omega, .inl rfl⟩
theorem five_of {w : World} {b : Nat} {c0 c1 c2 c3 c4 : Value} {t : TypeId} {f : Nat × Nat} (h : w.heap[b]? = some (Obj.cells #[c0, c1, c2, c3, c4] t f)) : Five w b 0 c0 c1 c2 c3 c4 := by
  constructor <;> simp [World.cell?, h]
theorem row_one {R : Value → Ty → Prop} {w : World} {b : Nat} {c0 c1 c2 c3 c4 : Value} {t : TypeId} {f : Nat × Nat} {x : Ty} (h : w.heap[b]? = some (Obj.cells #[c0, c1, c2, c3, c4] t f)) (hR : R (.agg #[c0, c1, c2, c3, c4]) x) : RowOf R w (.slice (some ⟨b, 0, none⟩) 1 1) [x] := by
  refine ⟨_, 1, rfl, by simp, by unfold maxLen; omega, .inr ⟨b, 0, rfl, fun i y hy => ?_⟩⟩
  cases i with
  | zero =>
    simp at hy
    subst hy
    exact ⟨c0, c1, c2, c3, c4, hR, five_of h⟩
  | succ i => simp at hy
theorem row_two {R : Value → Ty → Prop} {w : World} {b : Nat} {c0 c1 c2 c3 c4 e0 e1 e2 e3 e4 : Value} {t : TypeId} {f : Nat × Nat} {x y : Ty} (h : w.heap[b]? = some (Obj.cells #[c0, c1, c2, c3, c4, e0, e1, e2, e3, e4] t f)) (hR : R (.agg #[c0, c1, c2, c3, c4]) x) (hS : R (.agg #[e0, e1, e2, e3, e4]) y) : RowOf R w (.slice (some ⟨b, 0, none⟩) 2 2) [x, y] := by
  refine ⟨_, 2, rfl, by simp, by unfold maxLen; omega, .inr ⟨b, 0, rfl, fun i z hz => ?_⟩⟩
  cases i with
  | zero =>
    simp at hz
    subst hz
    exact ⟨c0, c1, c2, c3, c4, hR, by constructor <;> simp [World.cell?, h]⟩
  | succ i =>
    cases i with
    | zero =>
      simp at hz
      subst hz
      exact ⟨e0, e1, e2, e3, e4, hS, by constructor <;> simp [World.cell?, h]⟩
    | succ i => simp at hz

def tInt : Ty := .mk 1 E0 E0 [] []
def tText : Ty := .mk 3 E0 E0 [] []
def tBool : Ty := .mk 2 E0 E0 [] []
def tT : Ty := .mk 9 E0 ⟨#[84]⟩ [] []
def tSl (t : Ty) : Ty := .mk 6 E0 E0 [t] []
def tFn : Ty := .mk 7 E0 E0 [tInt, tSl tText] [tBool]
theorem ex_infer : inferT [⟨#[84]⟩] [tSl tT] [tSl tInt] = some [tInt] := by
  have hc : Lib.containsS [⟨#[84]⟩] ⟨#[84]⟩ = true := (Lib.containsS_iff _ _).2 (by simp)
  simp [inferT, infL, infT, tSl, tT, tInt, Ty.kd, Ty.as, noTys, upd, pick, hc]
theorem ex_text : textT tFn = ⟨#[102, 117, 110, 99, 40, 105, 110, 116, 44, 32, 91, 93, 115, 116, 114, 105, 110, 103, 41, 32, 98, 111, 111, 108]⟩ := by
  simp [textT, textL, headT, resT, tFn, tInt, tText, tBool, tSl, joinB, Lib.join]
  rfl
theorem ex_bulk : bulkT tFn ≤ 1000000000 := by simp [bulkT, bulkL, tFn, tInt, tText, tBool, tSl]; decide

theorem heap9 (w : World) (o0 o1 o2 o3 o4 o5 o6 o7 o8 : Obj) : ∃ W, W = (((((((((w.alloc o0).alloc o1).alloc o2).alloc o3).alloc o4).alloc o5).alloc o6).alloc o7).alloc o8) ∧ W.heap[w.heap.size]? = some o0 ∧ W.heap[w.heap.size + 1]? = some o1 ∧ W.heap[w.heap.size + 1 + 1]? = some o2 ∧ W.heap[w.heap.size + 1 + 1 + 1]? = some o3 ∧ W.heap[w.heap.size + 1 + 1 + 1 + 1]? = some o4 ∧ W.heap[w.heap.size + 1 + 1 + 1 + 1 + 1]? = some o5 ∧ W.heap[w.heap.size + 1 + 1 + 1 + 1 + 1 + 1]? = some o6 ∧ W.heap[w.heap.size + 1 + 1 + 1 + 1 + 1 + 1 + 1]? = some o7 ∧ W.heap[w.heap.size + 1 + 1 + 1 + 1 + 1 + 1 + 1 + 1]? = some o8 ∧ Below w.heap.size w W ∧ w.heap.size + 9 ≤ W.heap.size := by
  refine ⟨_, rfl, ?_, ?_, ?_, ?_, ?_, ?_, ?_, ?_, ?_, ?_, ?_⟩
  · have h : (w.alloc o0).heap[w.heap.size]? = some o0 := by
      have h := heap_alloc_new w o0
      exact h
    have h := (heap_alloc_old (w.alloc o0) o1 (r := w.heap.size) (by simp <;> omega)).trans h
    have h := (heap_alloc_old ((w.alloc o0).alloc o1) o2 (r := w.heap.size) (by simp <;> omega)).trans h
    have h := (heap_alloc_old (((w.alloc o0).alloc o1).alloc o2) o3 (r := w.heap.size) (by simp <;> omega)).trans h
    have h := (heap_alloc_old ((((w.alloc o0).alloc o1).alloc o2).alloc o3) o4 (r := w.heap.size) (by simp <;> omega)).trans h
    have h := (heap_alloc_old (((((w.alloc o0).alloc o1).alloc o2).alloc o3).alloc o4) o5 (r := w.heap.size) (by simp <;> omega)).trans h
    have h := (heap_alloc_old ((((((w.alloc o0).alloc o1).alloc o2).alloc o3).alloc o4).alloc o5) o6 (r := w.heap.size) (by simp <;> omega)).trans h
    have h := (heap_alloc_old (((((((w.alloc o0).alloc o1).alloc o2).alloc o3).alloc o4).alloc o5).alloc o6) o7 (r := w.heap.size) (by simp <;> omega)).trans h
    have h := (heap_alloc_old ((((((((w.alloc o0).alloc o1).alloc o2).alloc o3).alloc o4).alloc o5).alloc o6).alloc o7) o8 (r := w.heap.size) (by simp <;> omega)).trans h
    exact h
  · have h : ((w.alloc o0).alloc o1).heap[w.heap.size + 1]? = some o1 := by
      have h := heap_alloc_new (w.alloc o0) o1
      rw [show (w.alloc o0).heap.size = w.heap.size + 1 by simp] at h
      exact h
    have h := (heap_alloc_old ((w.alloc o0).alloc o1) o2 (r := w.heap.size + 1) (by simp <;> omega)).trans h
    have h := (heap_alloc_old (((w.alloc o0).alloc o1).alloc o2) o3 (r := w.heap.size + 1) (by simp <;> omega)).trans h
    have h := (heap_alloc_old ((((w.alloc o0).alloc o1).alloc o2).alloc o3) o4 (r := w.heap.size + 1) (by simp <;> omega)).trans h
    have h := (heap_alloc_old (((((w.alloc o0).alloc o1).alloc o2).alloc o3).alloc o4) o5 (r := w.heap.size + 1) (by simp <;> omega)).trans h
    have h := (heap_alloc_old ((((((w.alloc o0).alloc o1).alloc o2).alloc o3).alloc o4).alloc o5) o6 (r := w.heap.size + 1) (by simp <;> omega)).trans h
    have h := (heap_alloc_old (((((((w.alloc o0).alloc o1).alloc o2).alloc o3).alloc o4).alloc o5).alloc o6) o7 (r := w.heap.size + 1) (by simp <;> omega)).trans h
    have h := (heap_alloc_old ((((((((w.alloc o0).alloc o1).alloc o2).alloc o3).alloc o4).alloc o5).alloc o6).alloc o7) o8 (r := w.heap.size + 1) (by simp <;> omega)).trans h
    exact h
  · have h : (((w.alloc o0).alloc o1).alloc o2).heap[w.heap.size + 1 + 1]? = some o2 := by
      have h := heap_alloc_new ((w.alloc o0).alloc o1) o2
      rw [show ((w.alloc o0).alloc o1).heap.size = w.heap.size + 1 + 1 by simp] at h
      exact h
    have h := (heap_alloc_old (((w.alloc o0).alloc o1).alloc o2) o3 (r := w.heap.size + 1 + 1) (by simp <;> omega)).trans h
    have h := (heap_alloc_old ((((w.alloc o0).alloc o1).alloc o2).alloc o3) o4 (r := w.heap.size + 1 + 1) (by simp <;> omega)).trans h
    have h := (heap_alloc_old (((((w.alloc o0).alloc o1).alloc o2).alloc o3).alloc o4) o5 (r := w.heap.size + 1 + 1) (by simp <;> omega)).trans h
    have h := (heap_alloc_old ((((((w.alloc o0).alloc o1).alloc o2).alloc o3).alloc o4).alloc o5) o6 (r := w.heap.size + 1 + 1) (by simp <;> omega)).trans h
    have h := (heap_alloc_old (((((((w.alloc o0).alloc o1).alloc o2).alloc o3).alloc o4).alloc o5).alloc o6) o7 (r := w.heap.size + 1 + 1) (by simp <;> omega)).trans h
    have h := (heap_alloc_old ((((((((w.alloc o0).alloc o1).alloc o2).alloc o3).alloc o4).alloc o5).alloc o6).alloc o7) o8 (r := w.heap.size + 1 + 1) (by simp <;> omega)).trans h
    exact h
  · have h : ((((w.alloc o0).alloc o1).alloc o2).alloc o3).heap[w.heap.size + 1 + 1 + 1]? = some o3 := by
      have h := heap_alloc_new (((w.alloc o0).alloc o1).alloc o2) o3
      rw [show (((w.alloc o0).alloc o1).alloc o2).heap.size = w.heap.size + 1 + 1 + 1 by simp] at h
      exact h
    have h := (heap_alloc_old ((((w.alloc o0).alloc o1).alloc o2).alloc o3) o4 (r := w.heap.size + 1 + 1 + 1) (by simp <;> omega)).trans h
    have h := (heap_alloc_old (((((w.alloc o0).alloc o1).alloc o2).alloc o3).alloc o4) o5 (r := w.heap.size + 1 + 1 + 1) (by simp <;> omega)).trans h
    have h := (heap_alloc_old ((((((w.alloc o0).alloc o1).alloc o2).alloc o3).alloc o4).alloc o5) o6 (r := w.heap.size + 1 + 1 + 1) (by simp <;> omega)).trans h
    have h := (heap_alloc_old (((((((w.alloc o0).alloc o1).alloc o2).alloc o3).alloc o4).alloc o5).alloc o6) o7 (r := w.heap.size + 1 + 1 + 1) (by simp <;> omega)).trans h
    have h := (heap_alloc_old ((((((((w.alloc o0).alloc o1).alloc o2).alloc o3).alloc o4).alloc o5).alloc o6).alloc o7) o8 (r := w.heap.size + 1 + 1 + 1) (by simp <;> omega)).trans h
    exact h
  · have h : (((((w.alloc o0).alloc o1).alloc o2).alloc o3).alloc o4).heap[w.heap.size + 1 + 1 + 1 + 1]? = some o4 := by
      have h := heap_alloc_new ((((w.alloc o0).alloc o1).alloc o2).alloc o3) o4
      rw [show ((((w.alloc o0).alloc o1).alloc o2).alloc o3).heap.size = w.heap.size + 1 + 1 + 1 + 1 by simp] at h
      exact h
    have h := (heap_alloc_old (((((w.alloc o0).alloc o1).alloc o2).alloc o3).alloc o4) o5 (r := w.heap.size + 1 + 1 + 1 + 1) (by simp <;> omega)).trans h
    have h := (heap_alloc_old ((((((w.alloc o0).alloc o1).alloc o2).alloc o3).alloc o4).alloc o5) o6 (r := w.heap.size + 1 + 1 + 1 + 1) (by simp <;> omega)).trans h
    have h := (heap_alloc_old (((((((w.alloc o0).alloc o1).alloc o2).alloc o3).alloc o4).alloc o5).alloc o6) o7 (r := w.heap.size + 1 + 1 + 1 + 1) (by simp <;> omega)).trans h
    have h := (heap_alloc_old ((((((((w.alloc o0).alloc o1).alloc o2).alloc o3).alloc o4).alloc o5).alloc o6).alloc o7) o8 (r := w.heap.size + 1 + 1 + 1 + 1) (by simp <;> omega)).trans h
    exact h
  · have h : ((((((w.alloc o0).alloc o1).alloc o2).alloc o3).alloc o4).alloc o5).heap[w.heap.size + 1 + 1 + 1 + 1 + 1]? = some o5 := by
      have h := heap_alloc_new (((((w.alloc o0).alloc o1).alloc o2).alloc o3).alloc o4) o5
      rw [show (((((w.alloc o0).alloc o1).alloc o2).alloc o3).alloc o4).heap.size = w.heap.size + 1 + 1 + 1 + 1 + 1 by simp] at h
      exact h
    have h := (heap_alloc_old ((((((w.alloc o0).alloc o1).alloc o2).alloc o3).alloc o4).alloc o5) o6 (r := w.heap.size + 1 + 1 + 1 + 1 + 1) (by simp <;> omega)).trans h
    have h := (heap_alloc_old (((((((w.alloc o0).alloc o1).alloc o2).alloc o3).alloc o4).alloc o5).alloc o6) o7 (r := w.heap.size + 1 + 1 + 1 + 1 + 1) (by simp <;> omega)).trans h
    have h := (heap_alloc_old ((((((((w.alloc o0).alloc o1).alloc o2).alloc o3).alloc o4).alloc o5).alloc o6).alloc o7) o8 (r := w.heap.size + 1 + 1 + 1 + 1 + 1) (by simp <;> omega)).trans h
    exact h
  · have h : (((((((w.alloc o0).alloc o1).alloc o2).alloc o3).alloc o4).alloc o5).alloc o6).heap[w.heap.size + 1 + 1 + 1 + 1 + 1 + 1]? = some o6 := by
      have h := heap_alloc_new ((((((w.alloc o0).alloc o1).alloc o2).alloc o3).alloc o4).alloc o5) o6
      rw [show ((((((w.alloc o0).alloc o1).alloc o2).alloc o3).alloc o4).alloc o5).heap.size = w.heap.size + 1 + 1 + 1 + 1 + 1 + 1 by simp] at h
      exact h
    have h := (heap_alloc_old (((((((w.alloc o0).alloc o1).alloc o2).alloc o3).alloc o4).alloc o5).alloc o6) o7 (r := w.heap.size + 1 + 1 + 1 + 1 + 1 + 1) (by simp <;> omega)).trans h
    have h := (heap_alloc_old ((((((((w.alloc o0).alloc o1).alloc o2).alloc o3).alloc o4).alloc o5).alloc o6).alloc o7) o8 (r := w.heap.size + 1 + 1 + 1 + 1 + 1 + 1) (by simp <;> omega)).trans h
    exact h
  · have h : ((((((((w.alloc o0).alloc o1).alloc o2).alloc o3).alloc o4).alloc o5).alloc o6).alloc o7).heap[w.heap.size + 1 + 1 + 1 + 1 + 1 + 1 + 1]? = some o7 := by
      have h := heap_alloc_new (((((((w.alloc o0).alloc o1).alloc o2).alloc o3).alloc o4).alloc o5).alloc o6) o7
      rw [show (((((((w.alloc o0).alloc o1).alloc o2).alloc o3).alloc o4).alloc o5).alloc o6).heap.size = w.heap.size + 1 + 1 + 1 + 1 + 1 + 1 + 1 by simp] at h
      exact h
    have h := (heap_alloc_old ((((((((w.alloc o0).alloc o1).alloc o2).alloc o3).alloc o4).alloc o5).alloc o6).alloc o7) o8 (r := w.heap.size + 1 + 1 + 1 + 1 + 1 + 1 + 1) (by simp <;> omega)).trans h
    exact h
  · have h : (((((((((w.alloc o0).alloc o1).alloc o2).alloc o3).alloc o4).alloc o5).alloc o6).alloc o7).alloc o8).heap[w.heap.size + 1 + 1 + 1 + 1 + 1 + 1 + 1 + 1]? = some o8 := by
      have h := heap_alloc_new ((((((((w.alloc o0).alloc o1).alloc o2).alloc o3).alloc o4).alloc o5).alloc o6).alloc o7) o8
      rw [show ((((((((w.alloc o0).alloc o1).alloc o2).alloc o3).alloc o4).alloc o5).alloc o6).alloc o7).heap.size = w.heap.size + 1 + 1 + 1 + 1 + 1 + 1 + 1 + 1 by simp] at h
      exact h
    exact h
  · exact (((((((((Below.refl _ _).alloc (by simp <;> omega) _).alloc (by simp <;> omega) _).alloc (by simp <;> omega) _).alloc (by simp <;> omega) _).alloc (by simp <;> omega) _).alloc (by simp <;> omega) _).alloc (by simp <;> omega) _).alloc (by simp <;> omega) _).alloc (by simp <;> omega) _
  · simp <;> omega
theorem awake_any (w : World) : Calls Try.prog 13 #[] w fun e w' => e = .returned (.bool true) ∧ Below w.heap.size w w' := by
  obtain ⟨W, hW, h0, h1, h2, h3, h4, h5, h6, h7, h8, hB, hS⟩ := heap9 w (cT 3 E0 nl nl) (.cells #[.int .i64 1, .string E0, .string E0, nl, nl, .int .i64 6, .string E0, .string E0, .slice (some ⟨w.heap.size, 0, none⟩) 1 1, nl] 31) (cT 2 E0 nl nl) (cT 7 E0 (.slice (some ⟨w.heap.size + 1, 0, none⟩) 2 2) (.slice (some ⟨w.heap.size + 1 + 1, 0, none⟩) 1 1)) (.cells #[.string ⟨#[84]⟩] 9) (cT 9 ⟨#[84]⟩ nl nl) (cT 6 E0 (.slice (some ⟨w.heap.size + 1 + 1 + 1 + 1 + 1, 0, none⟩) 1 1) nl) (cT 1 E0 nl nl) (cT 6 E0 (.slice (some ⟨w.heap.size + 1 + 1 + 1 + 1 + 1 + 1 + 1, 0, none⟩) 1 1) nl)
  have Lnil := fun d => row_nil (Lies W d) W
  have LInt : Lies W 1 (.agg #[.int .i64 1, .string E0, .string E0, nl, nl]) tInt := ⟨_, _, rfl, Lnil 0, Lnil 0⟩
  have LText : Lies W 1 (.agg #[.int .i64 3, .string E0, .string E0, nl, nl]) tText := ⟨_, _, rfl, Lnil 0, Lnil 0⟩
  have LBool : Lies W 1 (.agg #[.int .i64 2, .string E0, .string E0, nl, nl]) tBool := ⟨_, _, rfl, Lnil 0, Lnil 0⟩
  have LT : Lies W 1 (.agg #[.int .i64 9, .string E0, .string ⟨#[84]⟩, nl, nl]) tT := ⟨_, _, rfl, Lnil 0, Lnil 0⟩
  have LSl : Lies W 2 (.agg #[.int .i64 6, .string E0, .string E0, .slice (some ⟨w.heap.size, 0, none⟩) 1 1, nl]) (tSl tText) := ⟨_, _, rfl, row_one h0 LText, Lnil 1⟩
  have LFn : Lies W 3 (.agg #[.int .i64 7, .string E0, .string E0, .slice (some ⟨w.heap.size + 1, 0, none⟩) 2 2, .slice (some ⟨w.heap.size + 1 + 1, 0, none⟩) 1 1]) tFn := ⟨_, _, rfl, row_two h1 (LInt.le (show 1 ≤ 2 by omega)) LSl, row_one h2 (LBool.le (show 1 ≤ 2 by omega))⟩
  have RP : RowOf (Lies W 2) W (.slice (some ⟨w.heap.size + 1 + 1 + 1 + 1 + 1 + 1, 0, none⟩) 1 1) [tSl tT] := row_one h6 ⟨_, _, rfl, row_one h5 LT, Lnil 1⟩
  have RA : RowOf (Lies W 2) W (.slice (some ⟨w.heap.size + 1 + 1 + 1 + 1 + 1 + 1 + 1 + 1, 0, none⟩) 1 1) [tSl tInt] := row_one h8 ⟨_, _, rfl, row_one h7 LInt, Lnil 1⟩
  have RN : NamesIs W (.slice (some ⟨w.heap.size + 1 + 1 + 1 + 1, 0, none⟩) 1 1) [⟨#[84]⟩] := by
    refine ⟨⟨_, _, rfl, by simp, .inr ⟨w.heap.size + 1 + 1 + 1 + 1, 0, rfl, fun j hj => ?_⟩⟩, fun s hs => by rw [List.mem_singleton.1 hs]; unfold maxLen; show 1 ≤ _; omega⟩
    have : j = 0 := by simp at hj; omega
    subst this
    simp [World.cell?, h4]
  have hinf := infer_any W 2 2 _ _ _ _ _ _ RN RP RA (by simp [sizL, sizT, tSl, tT]) (by simp [sizL, sizT, tSl, tInt]) (by simp)
  rw [ex_infer] at hinf
  have HFn := Lib.hid LFn
  have H3 := Lib.hid h3
  have HBW := Lib.hid hB
  clear h0 h1 h2 h3 h4 h5 h6 h7 h8 Lnil LInt LText LBool LT LSl LFn RP RA RN hB
  go_enter Try.func13, Try.ntmps13
  go_wp2_with (first | (go_at_call 14; rw [← hW]; refine hinf.mono ?_; rintro e w2 ⟨hb2, u, rfl, hu⟩; refine Hid.out ?_))
  refine Lib.hid ?_
  have hrow := hu.row (fun _ _ h => LiesIn.lies _ _ _ h)
  obtain ⟨a, c, rfl, -, -, hf⟩ := hrow.form
  obtain ⟨b, o, rfl⟩ := hf (by simp)
  obtain ⟨x0, x1, x2, x3, x4, hl, hf5⟩ := hrow.get 0 tInt rfl
  obtain ⟨e9, kt, pt, nt, a1, m1, q1, a2, m2, q2, lat, lrt, hde, hte, rfl, rfl, rfl, rfl, rfl, hra, hrr⟩ := lies_at hl
  have hkt : kt = 1 := by rw [tInt] at hte; simp at hte; exact hte.1.symm
  subst hkt
  have hk3 := (hb2.block (w.heap.size + 1 + 1 + 1) (by omega)).trans H3.out
  have c0 : w2.cell? ⟨w.heap.size + 1 + 1 + 1, 0, none⟩ = some (.int .i64 7) := by simp [World.cell?, hk3]
  have c1 : w2.cell? ⟨w.heap.size + 1 + 1 + 1, 1, none⟩ = some (.string E0) := by simp [World.cell?, hk3]
  have c2 : w2.cell? ⟨w.heap.size + 1 + 1 + 1, 2, none⟩ = some (.string E0) := by simp [World.cell?, hk3]
  have c3 : w2.cell? ⟨w.heap.size + 1 + 1 + 1, 3, none⟩ = some (.slice (some ⟨w.heap.size + 1, 0, none⟩) 2 2) := by simp [World.cell?, hk3]
  have c4 : w2.cell? ⟨w.heap.size + 1 + 1 + 1, 4, none⟩ = some (.slice (some ⟨w.heap.size + 1 + 1, 0, none⟩) 1 1) := by simp [World.cell?, hk3]
  have HT := Lib.hid (Lies.below hb2 _ _ _ HFn.out)
  have htx := text_any 3 w2 _ _ HT.out ex_bulk
  rw [ex_text] at htx
  have g0 := hf5.c0
  rw [Nat.zero_mul, Nat.add_zero] at g0
  have hlt := World.block_lt_of_cell? w2 _ g0
  have HB2 := Lib.hid (HBW.out.trans (hb2.mono HBW.out.size))
  clear hu hrow hf hf5 hl hte hra hrr hde hk3 hb2 HFn H3 hinf
  go_wp2_with (first | (go_at_call 22; refine htx.mono ?_; rintro e w3 ⟨rfl, hb3⟩; have g1 := (hb3.cell (p := ⟨b, o, none⟩) hlt).trans g0; have HB3 := Lib.hid hb3; clear hb3))
  go_ret
  exact ⟨rfl, HB2.out.trans (HB3.out.mono HB2.out.size)⟩
end Go.Proofs.Ytcelpmojhjnggaa
