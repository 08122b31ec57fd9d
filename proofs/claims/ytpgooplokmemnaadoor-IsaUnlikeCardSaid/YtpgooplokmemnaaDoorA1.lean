/- isa.of at each number. -/
import Derived.Test.YtpgooplokmemnaaDoorProg
import Derived.WalkKit
import Derived.Lib.Hide
import Derived.ProofKit
import Derived.Deep.Cut
import Derived.Deep.DeepCutAuto
import Derived.Laws.Tables
namespace Go.Proofs.YtpgooplokmemnaaDoor
open Go Go.RowKit
set_option maxHeartbeats 2000000
set_option maxRecDepth 100000

theorem wpList_buildC {P : Program} {ops : Array Oper} {rest : List Oper} {o : Oper} {a : Act} {w : World} {Q : Exit → Act → World → Prop} (hg : o.guard = none) (t : TypeId) (parts : Array (Nat × Operand)) (ho : o.op = .build t parts)
    (cells : Array Value) (hf : P.built t (parts.map fun (i, x) => (i, a.eval x)).toList = some cells)
    (h : wpList P ops Q rest (a.put o.dst (.agg cells)) w) : wpList P ops Q (o :: rest) a w :=
  wpList_build hg t parts ho (by rw [hf]; rfl) (by rw [hf]; exact h)
theorem alloc_setRow (w : World) (n : Nat) (hn : n = w.heap.size) (old cs : Array Value) (t : TypeId) (fr : Nat × Nat) : (w.alloc (.cells old t fr)).setRow n cs = w.alloc (.cells cs t fr) := by
  subst hn
  unfold World.setRow World.alloc
  congr 1
  apply Array.ext
  · simp
  · intro k h1 h2
    simp only [Array.getElem_modify, Array.getElem_push]
    split
    · rename_i hk; subst hk; simp
    · rename_i hk
      have hk2 : k < w.heap.size := by simp at h1; omega
      simp [hk2]
theorem wpList_storeC {P : Program} {ops : Array Oper} {rest : List Oper} {o : Oper} {a : Act} {w : World} {Q : Exit → Act → World → Prop} (hgd : o.guard = none) (ty : TypeId) (x y : Operand) (ho : o.op = .store ty x y)
    (g : Nat) (cells : Array Value) (t : TypeId) (old : Array Value)
    (hx : a.eval x = .pointer (some ⟨g, 0, none⟩)) (hy : a.eval y = .agg cells)
    (hgs : g = w.heap.size) (hi : (P.info? ty).map (·.size) = some cells.size)
    (hold : old.size = cells.size) (h1 : cells.all (·.oneCell') = true)
    (h : wpList P ops Q rest (a.put o.dst undef) (w.alloc (.cells cells t))) : wpList P ops Q (o :: rest) a (w.alloc (.cells old t)) := by
  subst hgs
  refine wpList_store_row hgd ty x y ho w.heap.size cells hx hy t old (by simp only [World.alloc]; exact Array.getElem?_push_size) hi hold h1 ?_
  rw [alloc_setRow _ _ rfl]; exact h

def S (l : List UInt8) : Value := .string ⟨l.toArray⟩
def row (l : List UInt8) (r : Int) (b : Bool) : List Value := [S l, .int .i64 r, .bool b]
def tabC : Array Value := (row [104, 97, 108, 116] 0 false ++ row [116, 114, 97, 112] 0 true ++ row [109, 111, 118, 101] 3 false ++ row [99, 111, 110, 115, 116] 1 true
  ++ row [104, 105, 103, 104] 1 true ++ row [108, 111, 97, 100] 3 true ++ row [115, 116, 111, 114, 101] 3 true ++ row [106, 117, 109, 112] 0 true ++ row [122, 101, 114, 111] 1 true ++ row [115, 111, 109, 101] 1 true
  ++ row [99, 97, 108, 108] 0 true ++ row [97, 116] 1 false ++ row [114, 101, 116] 0 false ++ row [105, 110] 1 false ++ row [111, 117, 116] 1 false ++ row [114, 111, 111, 109] 1 false).toArray
def twoC : Array Value := #[S [97, 100, 100], S [115, 117, 98], S [109, 117, 108], S [100, 105, 118], S [114, 101, 109], S [97, 110, 100], S [111, 114], S [120, 111, 114], S [115, 104, 108], S [115, 104, 114], S [101, 113], S [110, 101], S [108, 116], S [108, 101], S [103, 116], S [103, 101]]
def oneC : Array Value := #[S [110, 101, 103], S [102, 108, 105, 112], S [98, 97, 110, 103]]

theorem wpList_tableC {P : Program} {ops : Array Oper} {rest : List Oper} {o1 o2 : Oper} {a : Act} {w : World} {Q : Exit → Act → World → Prop} (T : TypeId) (d : Nat) (x : Operand)
    (hg1 : o1.guard = none) (ho1 : o1.op = .alloc T) (hd1 : o1.dst = some d) (hg2 : o2.guard = none) (ho2 : o2.op = .store T (.tmp d) x)
    (z : Value) (hz : (zeroValue T).run P w = .ok z w) (cells : Array Value) (hi : (P.info? T).map (·.size) = some cells.size) (hzc : z.cells.size = cells.size)
    (hd : d < a.tmps.size) (hx : (a.put (some d) (.pointer (some ⟨w.heap.size, 0, none⟩))).eval x = .agg cells) (h1 : cells.all (·.oneCell') = true)
    (h : wpList P ops Q rest ((a.put (some d) (.pointer (some ⟨w.heap.size, 0, none⟩))).put o2.dst undef) (w.alloc (.cells cells T))) :
    wpList P ops Q (o1 :: o2 :: rest) a w := by
  refine wpList_plain hg1 fun K hK => ?_
  have hrun : (Instr.alloc T true (.tuple #[])).run P w = .ok (.pointer (some ⟨w.heap.size, 0, none⟩)) (w.alloc (.cells z.cells T)) := by
    simp [Instr.alloc, hz, newVar, go_sem]
  unfold Oper.wp
  simp only [execOp, ho1, Sem.run_bind, hrun, Result.andThen_ok]
  refine hK _ _ ?_
  rw [hd1]
  exact wpList_storeC hg2 T _ x ho2 w.heap.size cells T z.cells (by simp [Act.eval, Act.put, hd]) hx rfl hi hzc h1 h

theorem of_low (op : Int) (h0 : 0 ≤ op) (h1 : op < 16) (s : ByteArray) (r : Int) (b : Bool) (t0 : tabC[op.toNat * 3]? = some (.string s)) (t1 : tabC[op.toNat * 3 + 1]? = some (.int .i64 r)) (t2 : tabC[op.toNat * 3 + 2]? = some (.bool b)) (w : World) : Calls Tryd.prog 20 #[.int .i64 op] w fun e w' => e = .returned (.tuple #[.agg #[.string s, .int .i64 r, .bool b], .bool true]) ∧ Below w.heap.size w w' := by
  go_enter Tryd.func20, Tryd.ntmps20
  go_wp2_with (refine wpList_buildC rfl 57 _ rfl tabC (by as_aux_lemma => kernel_rfl) ?_; refine Hid.out ?_)
  refine Lib.hid ?_
  refine wpList_tableC 57 4 (.tmp 23) rfl rfl rfl rfl rfl _ (Tryd.zeroValue57 _) tabC (by as_aux_lemma => kernel_rfl) (by as_aux_lemma => kernel_rfl) (Nat.le_of_ble_eq_true (by as_aux_lemma => kernel_rfl) ) (by as_aux_lemma => kernel_rfl) (by as_aux_lemma => kernel_rfl) ?_
  go_wp2_with (refine wpList_buildC rfl 58 _ rfl twoC (by as_aux_lemma => kernel_rfl) ?_; refine Hid.out ?_)
  refine Lib.hid ?_
  refine wpList_tableC 58 5 (.tmp 24) rfl rfl rfl rfl rfl _ (Tryd.zeroValue58 _) twoC (by as_aux_lemma => kernel_rfl) (by as_aux_lemma => kernel_rfl) (Nat.le_of_ble_eq_true (by as_aux_lemma => kernel_rfl) ) (by as_aux_lemma => kernel_rfl) (by as_aux_lemma => kernel_rfl) ?_
  go_wp2_with (refine wpList_buildC rfl 59 _ rfl oneC (by as_aux_lemma => kernel_rfl) ?_; refine Hid.out ?_)
  refine Lib.hid ?_
  refine wpList_tableC 59 6 (.tmp 25) rfl rfl rfl rfl rfl _ (Tryd.zeroValue59 _) oneC (by as_aux_lemma => kernel_rfl) (by as_aux_lemma => kernel_rfl) (Nat.le_of_ble_eq_true (by as_aux_lemma => kernel_rfl) ) (by as_aux_lemma => kernel_rfl) (by as_aux_lemma => kernel_rfl) ?_
  have e0 : decide (0 ≤ op) = true := by simp [h0]
  have e1 : decide (op < 16) = true := by simp [h1]
  go_wp2_with fail
  (refine bodyPost_ret (v := .tuple #[.agg #[_, _, _], _]) (by simp [results, Tryd.results20, go_sem]) rfl ⟨rfl, ?_⟩; exact ((((Below.refl _ _).alloc (Nat.le_refl _) _).alloc (by simp) _).alloc (by simp; omega) _).alloc (by simp; omega) _)
theorem of_two (op : Int) (h0 : 17 ≤ op) (h1 : op ≤ 32) (s : ByteArray) (t0 : twoC[(op - 16).toNat - 1]? = some (.string s)) (w : World) : Calls Tryd.prog 20 #[.int .i64 op] w fun e w' => e = .returned (.tuple #[.agg #[.string s, .int .i64 7, .bool false], .bool true]) ∧ Below w.heap.size w w' := by
  go_enter Tryd.func20, Tryd.ntmps20
  go_wp2_with (refine wpList_buildC rfl 57 _ rfl tabC (by as_aux_lemma => kernel_rfl) ?_; refine Hid.out ?_)
  refine Lib.hid ?_
  refine wpList_tableC 57 4 (.tmp 23) rfl rfl rfl rfl rfl _ (Tryd.zeroValue57 _) tabC (by as_aux_lemma => kernel_rfl) (by as_aux_lemma => kernel_rfl) (Nat.le_of_ble_eq_true (by as_aux_lemma => kernel_rfl) ) (by as_aux_lemma => kernel_rfl) (by as_aux_lemma => kernel_rfl) ?_
  go_wp2_with (refine wpList_buildC rfl 58 _ rfl twoC (by as_aux_lemma => kernel_rfl) ?_; refine Hid.out ?_)
  refine Lib.hid ?_
  refine wpList_tableC 58 5 (.tmp 24) rfl rfl rfl rfl rfl _ (Tryd.zeroValue58 _) twoC (by as_aux_lemma => kernel_rfl) (by as_aux_lemma => kernel_rfl) (Nat.le_of_ble_eq_true (by as_aux_lemma => kernel_rfl) ) (by as_aux_lemma => kernel_rfl) (by as_aux_lemma => kernel_rfl) ?_
  go_wp2_with (refine wpList_buildC rfl 59 _ rfl oneC (by as_aux_lemma => kernel_rfl) ?_; refine Hid.out ?_)
  refine Lib.hid ?_
  refine wpList_tableC 59 6 (.tmp 25) rfl rfl rfl rfl rfl _ (Tryd.zeroValue59 _) oneC (by as_aux_lemma => kernel_rfl) (by as_aux_lemma => kernel_rfl) (Nat.le_of_ble_eq_true (by as_aux_lemma => kernel_rfl) ) (by as_aux_lemma => kernel_rfl) (by as_aux_lemma => kernel_rfl) ?_
  have e0 : decide (0 ≤ op) = true := by simp; omega
  have e1 : decide (op < 16) = false := by simp; omega
  have e2 : decide (17 ≤ op) = true := by simp [h0]
  have e3 : decide (op ≤ 32) = true := by simp [h1]
  have e4 : IntKind.i64.wrap (op - 16) = op - 16 := IntWalk.i64_in _ (by omega)
  have e5 : IntKind.i64.wrap (op - 16 - 1) = op - 16 - 1 := IntWalk.i64_in _ (by omega)
  go_wp2_with fail
  (refine bodyPost_ret (v := .tuple #[.agg #[_, _, _], _]) (by simp [results, Tryd.results20, go_sem]) rfl ⟨rfl, ?_⟩; exact ((((Below.refl _ _).alloc (Nat.le_refl _) _).alloc (by simp) _).alloc (by simp; omega) _).alloc (by simp; omega) _)
theorem of_one (op : Int) (h0 : 41 ≤ op) (h1 : op ≤ 43) (s : ByteArray) (t0 : oneC[(op - 40).toNat - 1]? = some (.string s)) (w : World) : Calls Tryd.prog 20 #[.int .i64 op] w fun e w' => e = .returned (.tuple #[.agg #[.string s, .int .i64 3, .bool false], .bool true]) ∧ Below w.heap.size w w' := by
  go_enter Tryd.func20, Tryd.ntmps20
  go_wp2_with (refine wpList_buildC rfl 57 _ rfl tabC (by as_aux_lemma => kernel_rfl) ?_; refine Hid.out ?_)
  refine Lib.hid ?_
  refine wpList_tableC 57 4 (.tmp 23) rfl rfl rfl rfl rfl _ (Tryd.zeroValue57 _) tabC (by as_aux_lemma => kernel_rfl) (by as_aux_lemma => kernel_rfl) (Nat.le_of_ble_eq_true (by as_aux_lemma => kernel_rfl) ) (by as_aux_lemma => kernel_rfl) (by as_aux_lemma => kernel_rfl) ?_
  go_wp2_with (refine wpList_buildC rfl 58 _ rfl twoC (by as_aux_lemma => kernel_rfl) ?_; refine Hid.out ?_)
  refine Lib.hid ?_
  refine wpList_tableC 58 5 (.tmp 24) rfl rfl rfl rfl rfl _ (Tryd.zeroValue58 _) twoC (by as_aux_lemma => kernel_rfl) (by as_aux_lemma => kernel_rfl) (Nat.le_of_ble_eq_true (by as_aux_lemma => kernel_rfl) ) (by as_aux_lemma => kernel_rfl) (by as_aux_lemma => kernel_rfl) ?_
  go_wp2_with (refine wpList_buildC rfl 59 _ rfl oneC (by as_aux_lemma => kernel_rfl) ?_; refine Hid.out ?_)
  refine Lib.hid ?_
  refine wpList_tableC 59 6 (.tmp 25) rfl rfl rfl rfl rfl _ (Tryd.zeroValue59 _) oneC (by as_aux_lemma => kernel_rfl) (by as_aux_lemma => kernel_rfl) (Nat.le_of_ble_eq_true (by as_aux_lemma => kernel_rfl) ) (by as_aux_lemma => kernel_rfl) (by as_aux_lemma => kernel_rfl) ?_
  have e0 : decide (0 ≤ op) = true := by simp; omega
  have e1 : decide (op < 16) = false := by simp; omega
  have e2 : decide (17 ≤ op) = true := by simp; omega
  have e3 : decide (op ≤ 32) = false := by simp; omega
  have e6 : decide (41 ≤ op) = true := by simp [h0]
  have e7 : decide (op ≤ 43) = true := by simp [h1]
  have e4 : IntKind.i64.wrap (op - 40) = op - 40 := IntWalk.i64_in _ (by omega)
  have e5 : IntKind.i64.wrap (op - 40 - 1) = op - 40 - 1 := IntWalk.i64_in _ (by omega)
  go_wp2_with fail
  (refine bodyPost_ret (v := .tuple #[.agg #[_, _, _], _]) (by simp [results, Tryd.results20, go_sem]) rfl ⟨rfl, ?_⟩; exact ((((Below.refl _ _).alloc (Nat.le_refl _) _).alloc (by simp) _).alloc (by simp; omega) _).alloc (by simp; omega) _)
theorem of_none (op : Int) (g0 : (decide (0 ≤ op) && decide (op < 16)) = false) (g1 : (decide (17 ≤ op) && decide (op ≤ 32)) = false) (g2 : (decide (41 ≤ op) && decide (op ≤ 43)) = false) (w : World) : Calls Tryd.prog 20 #[.int .i64 op] w fun e w' => e = .returned (.tuple #[.agg #[.string ⟨#[]⟩, .int .i64 0, .bool false], .bool false]) ∧ Below w.heap.size w w' := by
  go_enter Tryd.func20, Tryd.ntmps20
  go_wp2_with (refine wpList_buildC rfl 57 _ rfl tabC (by as_aux_lemma => kernel_rfl) ?_; refine Hid.out ?_)
  refine Lib.hid ?_
  refine wpList_tableC 57 4 (.tmp 23) rfl rfl rfl rfl rfl _ (Tryd.zeroValue57 _) tabC (by as_aux_lemma => kernel_rfl) (by as_aux_lemma => kernel_rfl) (Nat.le_of_ble_eq_true (by as_aux_lemma => kernel_rfl) ) (by as_aux_lemma => kernel_rfl) (by as_aux_lemma => kernel_rfl) ?_
  go_wp2_with (refine wpList_buildC rfl 58 _ rfl twoC (by as_aux_lemma => kernel_rfl) ?_; refine Hid.out ?_)
  refine Lib.hid ?_
  refine wpList_tableC 58 5 (.tmp 24) rfl rfl rfl rfl rfl _ (Tryd.zeroValue58 _) twoC (by as_aux_lemma => kernel_rfl) (by as_aux_lemma => kernel_rfl) (Nat.le_of_ble_eq_true (by as_aux_lemma => kernel_rfl) ) (by as_aux_lemma => kernel_rfl) (by as_aux_lemma => kernel_rfl) ?_
  go_wp2_with (refine wpList_buildC rfl 59 _ rfl oneC (by as_aux_lemma => kernel_rfl) ?_; refine Hid.out ?_)
  refine Lib.hid ?_
  refine wpList_tableC 59 6 (.tmp 25) rfl rfl rfl rfl rfl _ (Tryd.zeroValue59 _) oneC (by as_aux_lemma => kernel_rfl) (by as_aux_lemma => kernel_rfl) (Nat.le_of_ble_eq_true (by as_aux_lemma => kernel_rfl) ) (by as_aux_lemma => kernel_rfl) (by as_aux_lemma => kernel_rfl) ?_
  have a1 : ¬ (0 ≤ op ∧ op < 16) := fun h => by simp [h.1, h.2] at g0
  have a2 : ¬ (17 ≤ op ∧ op ≤ 32) := fun h => by simp [h.1, h.2] at g1
  have a3 : ¬ (41 ≤ op ∧ op ≤ 43) := fun h => by simp [h.1, h.2] at g2
  clear g0 g1 g2
  go_wp2_with fail
  all_goals first | (exfalso; omega) | (refine bodyPost_ret (v := .tuple #[.agg #[_, _, _], _]) (by simp [results, Tryd.results20, go_sem]) rfl ⟨rfl, ?_⟩; exact ((((Below.refl _ _).alloc (Nat.le_refl _) _).alloc (by simp) _).alloc (by simp; omega) _).alloc (by simp; omega) _)
end Go.Proofs.YtpgooplokmemnaaDoor
