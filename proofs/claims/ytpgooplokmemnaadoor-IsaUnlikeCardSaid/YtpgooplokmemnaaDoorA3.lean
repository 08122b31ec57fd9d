/- The walk of isa.Encode. -/
import Derived.Test.YtpgooplokmemnaaDoorA2
namespace Go.Proofs.YtpgooplokmemnaaDoor
open Go Go.RowKit IsaP
set_option maxHeartbeats 2000000
set_option maxRecDepth 100000

theorem alloc_known {w w2 : World} {cs : Array Value} {t : TypeId} {fr : Nat × Nat} (hb : Below (w.alloc (.cells cs t fr)).heap.size (w.alloc (.cells cs t fr)) w2) : w2.heap[w.heap.size]? = some (.cells cs t fr) ∧ Below w.heap.size w w2 := by
  have hs : (w.alloc (.cells cs t fr)).heap.size = w.heap.size + 1 := Array.size_push _
  refine ⟨?_, ?_⟩
  · rw [hb.block _ (by omega)]
    exact (show (w.heap.push _)[w.heap.size]? = _ from Array.getElem?_push_size)
  · have h1 : Below w.heap.size w (w.alloc (.cells cs t fr)) := (Below.refl _ _).alloc (Nat.le_refl _) _
    exact h1.trans ⟨hb.os, hb.tape, hb.output, hb.size, fun k hk => hb.block k (by omega)⟩

/-- has a shape the register of bit n? -/
def hasB (r n : Int) : Bool := bits BinOp.and IntKind.i64 r n != 0
/-- may the instruction be written? -/
def encB (r : Int) (m k : Bool) (a b c imm : Int) : Bool :=
  k && mayB a (hasB r 1) && mayB b (hasB r 2) && mayB c (hasB r 4) && (m || (imm == 0)) && decide (-2147483648 ≤ imm) && decide (imm ≤ 2147483647)
/-- its word, as the code joins it -/
def encW (op a b c imm : Int) : Int :=
  bits BinOp.or IntKind.i64 (bits BinOp.or IntKind.i64 (bits BinOp.or IntKind.i64 (bits BinOp.or IntKind.i64 (wrap64 (op * 72057594037927936)) (wrap64 (a * 4503599627370496))) (wrap64 (b * 281474976710656))) (wrap64 (c * 17592186044416))) (imm % 4294967296)

/-- what Encode hands back -/
def encRes (r : Int) (m k : Bool) (op a b c imm : Int) : Value :=
  .tuple #[.int .i64 (if encB r m k a b c imm then encW op a b c imm else 0), .int .i64 (if encB r m k a b c imm then 0 else 4)]

theorem enc_at (op a b c imm r : Int) (s : ByteArray) (m k : Bool) (hof : ∀ w, Calls Tryd.prog 20 #[.int .i64 op] w fun e w' => e = .returned (.tuple #[.agg #[.string s, .int .i64 r, .bool m], .bool k]) ∧ Below w.heap.size w w') (w : World) :
    Calls Tryd.prog 10 #[.agg #[.int .i64 op, .int .i64 a, .int .i64 b, .int .i64 c, .int .i64 imm]] w fun e w' => e = .returned (encRes r m k op a b c imm) ∧ Below w.heap.size w w' := by
  go_enter Tryd.func10, Tryd.ntmps10
  go_wp2_with (first | (go_at_call 20; refine (hof _).mono ?_; rintro e w2 ⟨rfl, hb⟩; obtain ⟨hk, hb2⟩ := alloc_known hb; clear hb; refine Hid.out ?_))
  refine Lib.hid ?_
  have hlt : w.heap.size < w2.heap.size := (Array.getElem?_eq_some_iff.1 hk).1
  have c0 : w2.cell? ⟨w.heap.size, 0, none⟩ = some (.int .i64 op) := by simp [World.cell?, hk]
  have c1 : w2.cell? ⟨w.heap.size, 1, none⟩ = some (.int .i64 a) := by simp [World.cell?, hk]
  have c2 : w2.cell? ⟨w.heap.size, 2, none⟩ = some (.int .i64 b) := by simp [World.cell?, hk]
  have c3 : w2.cell? ⟨w.heap.size, 3, none⟩ = some (.int .i64 c) := by simp [World.cell?, hk]
  have c4 : w2.cell? ⟨w.heap.size, 4, none⟩ = some (.int .i64 imm) := by simp [World.cell?, hk]
  clear hk
  go_wp2_with (first | (go_at_call 21; refine (may_any _ _ _).mono ?_; rintro e w3 ⟨rfl, rfl⟩))
  all_goals (refine bodyPost_ret (v := .tuple #[.int .i64 _, .int .i64 _]) (by simp [results, Tryd.results10, go_sem]; exact ⟨rfl, rfl⟩) rfl ⟨?_, hb2.alloc (Nat.le_of_lt hlt) _⟩)
  all_goals (clear c0 c1 c2 c3 c4 hof hb2 hlt)
  all_goals (simp_all [encRes, encB, encW, hasB])
  all_goals (refine ⟨?_, ?_⟩ <;> intros <;> omega)
theorem enc_any (op a b c imm : Int) (w : World) :
    Calls Tryd.prog 10 #[.agg #[.int .i64 op, .int .i64 a, .int .i64 b, .int .i64 c, .int .i64 imm]] w fun e w' => e = .returned (encRes (rg op) (im op) (ok op) op a b c imm) ∧ Below w.heap.size w w' :=
  enc_at op a b c imm (rg op) _ (im op) (ok op) (of_any op) w
end Go.Proofs.YtpgooplokmemnaaDoor
