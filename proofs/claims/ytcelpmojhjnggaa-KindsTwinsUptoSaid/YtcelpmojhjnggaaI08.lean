/- A type in memory of its own: copied. -/
import Derived.Test.YtcelpmojhjnggaaI04
import Derived.Deep.Cut
import Derived.Deep.DeepCutAuto
namespace Go.Proofs.Ytcelpmojhjnggaa
open Go Go.RowKit Go.Sort Go.Deep KindsP
set_option maxHeartbeats 2000000
set_option maxRecDepth 100000

mutual
/-- how many types stand in a type -/
def sizT : Ty → Nat
  | .mk _ _ _ la lr => 1 + sizL la + sizL lr
def sizL : List Ty → Nat
  | [] => 0
  | x :: xs => sizT x + sizL xs
end
theorem siz_pos (t : Ty) : 1 ≤ sizT t := by cases t; rw [sizT]; omega
theorem siz_len (l : List Ty) : l.length ≤ sizL l := by
  induction l with
  | nil => simp
  | cons x xs ih => rw [sizL]; have := siz_pos x; simp; omega
theorem siz_get (l : List Ty) (k : Nat) (h : k < l.length) : sizT l[k] ≤ sizL l := by
  induction l generalizing k with
  | nil => simp at h
  | cons x xs ih =>
    rw [sizL]
    cases k with
    | zero => simp
    | succ k => simp at h ⊢; have := ih k h; omega
theorem row_form {ok : Nat → Prop} {R : Value → Ty → Prop} {w : World} {v : Value} {l : List Ty} (h : RowIn ok R w v l) : ∃ a n c, v = .slice a n c := by
  obtain ⟨a, c, rfl, _⟩ := h
  exact ⟨_, _, _, rfl⟩

theorem copied_x (d : Nat) (w : World) (k : Int) (p n : ByteArray) (va vr : Value) (la lr : List Ty) (hva : ∃ a n c, va = .slice a n c) (hvr : ∃ a n c, vr = .slice a n c)
    (HA : ∀ w', Below w.heap.size w w' → Calls Try.prog 44 #[va, fCopied] w' fun e w'' => ∃ u, e = .returned u ∧ RowIn (fun b => w'.heap.size ≤ b) (LiesIn (fun b => w'.heap.size ≤ b) w'' d) w'' u la ∧ Below w'.heap.size w' w'')
    (HR : ∀ w', Below w.heap.size w w' → Calls Try.prog 44 #[vr, fCopied] w' fun e w'' => ∃ u, e = .returned u ∧ RowIn (fun b => w'.heap.size ≤ b) (LiesIn (fun b => w'.heap.size ≤ b) w'' d) w'' u lr ∧ Below w'.heap.size w' w'') :
    Calls Try.prog 39 #[.agg #[.int .i64 k, .string p, .string n, va, vr]] w fun e w' => ∃ u, e = .returned u ∧ LiesIn (fun b => w.heap.size ≤ b) w' (d + 1) u (.mk k p n la lr) ∧ Below w.heap.size w w' := by
  obtain ⟨aa, na, ca, rfl⟩ := hva
  obtain ⟨ar, nr, cr, rfl⟩ := hvr
  have HK := Lib.hid (fun (W : World) (hb : Below ((w.alloc (.cells #[.int .i64 k, .string p, .string n, .slice aa na ca, .slice ar nr cr] 31)).alloc (.cells #[.int .i64 0, .string ⟨#[]⟩, .string ⟨#[]⟩, .slice none 0 0, .slice none 0 0] 31)).heap.size ((w.alloc (.cells #[.int .i64 k, .string p, .string n, .slice aa na ca, .slice ar nr cr] 31)).alloc (.cells #[.int .i64 0, .string ⟨#[]⟩, .string ⟨#[]⟩, .slice none 0 0, .slice none 0 0] 31)) W) => alloc_known2 hb)
  have HK := Lib.hid (fun (W : World) (hb : Below ((w.alloc (.cells #[.int .i64 k, .string p, .string n, .slice aa na ca, .slice ar nr cr] 31)).alloc (.cells #[.int .i64 0, .string ⟨#[]⟩, .string ⟨#[]⟩, .slice none 0 0, .slice none 0 0] 31)).heap.size ((w.alloc (.cells #[.int .i64 k, .string p, .string n, .slice aa na ca, .slice ar nr cr] 31)).alloc (.cells #[.int .i64 0, .string ⟨#[]⟩, .string ⟨#[]⟩, .slice none 0 0, .slice none 0 0] 31)) W) => alloc_known2 hb)
  have HK := Lib.hid (fun (W : World) (hb : Below ((w.alloc (.cells #[.int .i64 k, .string p, .string n, .slice aa na ca, .slice ar nr cr] 31)).alloc (.cells #[.int .i64 0, .string ⟨#[]⟩, .string ⟨#[]⟩, .slice none 0 0, .slice none 0 0] 31)).heap.size ((w.alloc (.cells #[.int .i64 k, .string p, .string n, .slice aa na ca, .slice ar nr cr] 31)).alloc (.cells #[.int .i64 0, .string ⟨#[]⟩, .string ⟨#[]⟩, .slice none 0 0, .slice none 0 0] 31)) W) => alloc_known2 hb)
  go_enter Try.func39, Try.ntmps39
  go_upto_region 1 with fail
  go_region_with (first | (go_at_call_of 44 (Value.slice aa na ca); refine (HA _ ?_).mono ?_; exact (alloc2_below w _ _).drew; rintro e w2 ⟨u1, rfl, hu1, hb⟩; obtain ⟨_, _, _, rfl⟩ := row_form hu1; have HU1 := Lib.hid hu1; have HB1 := Lib.hid hb; have HC : Hid (Below ((w.alloc (.cells #[.int .i64 k, .string p, .string n, .slice aa na ca, .slice ar nr cr] 31)).alloc (.cells #[.int .i64 0, .string ⟨#[]⟩, .string ⟨#[]⟩, .slice none 0 0, .slice none 0 0] 31)).heap.size ((w.alloc (.cells #[.int .i64 k, .string p, .string n, .slice aa na ca, .slice ar nr cr] 31)).alloc (.cells #[.int .i64 0, .string ⟨#[]⟩, .string ⟨#[]⟩, .slice none 0 0, .slice none 0 0] 31)) w2) := ⟨hb.os, hb.tape, hb.output, hb.size, hb.block⟩; have HC2 := HC; obtain ⟨hk, hk1, hbw⟩ := HK.out w2 HC.out; have c0 : w2.cell? ⟨w.heap.size, 0, none⟩ = some (.int .i64 k) := (by simp [World.cell?, hk]); have d0 : w2.cell? ⟨w.heap.size + 1, 0, none⟩ = some (.int .i64 0) := (by simp [World.cell?, hk1]); have c1 : w2.cell? ⟨w.heap.size, 1, none⟩ = some (.string p) := (by simp [World.cell?, hk]); have d1 : w2.cell? ⟨w.heap.size + 1, 1, none⟩ = some (.string ⟨#[]⟩) := (by simp [World.cell?, hk1]); have c2 : w2.cell? ⟨w.heap.size, 2, none⟩ = some (.string n) := (by simp [World.cell?, hk]); have d2 : w2.cell? ⟨w.heap.size + 1, 2, none⟩ = some (.string ⟨#[]⟩) := (by simp [World.cell?, hk1]); have c3 : w2.cell? ⟨w.heap.size, 3, none⟩ = some (.slice aa na ca) := (by simp [World.cell?, hk]); have d3 : w2.cell? ⟨w.heap.size + 1, 3, none⟩ = some (.slice none 0 0) := (by simp [World.cell?, hk1]); have c4 : w2.cell? ⟨w.heap.size, 4, none⟩ = some (.slice ar nr cr) := (by simp [World.cell?, hk]); have d4 : w2.cell? ⟨w.heap.size + 1, 4, none⟩ = some (.slice none 0 0) := (by simp [World.cell?, hk1]); have f0 : ∀ i, w2.frozen? ⟨w.heap.size, i, none⟩ = false := (fun i => by simp [World.frozen?, hk]); have f1 : ∀ i, w2.frozen? ⟨w.heap.size + 1, i, none⟩ = false := (fun i => by simp [World.frozen?, hk1]); have hs2 : w.heap.size + 1 < w2.heap.size := (Array.getElem?_eq_some_iff.1 hk1).1; have HBW := Lib.hid hbw; clear hk hk1 hbw hb; clear hu1) | (go_at_call_of 44 (Value.slice ar nr cr); refine (HR _ ?_).mono ?_; exact HBW.out; rintro e w3 ⟨u2, rfl, hu2, hb⟩; obtain ⟨_, _, _, rfl⟩ := row_form hu2; have HU2 := Lib.hid hu2; have HB2 := Lib.hid hb; have HC := Lib.hid (HC.out.trans (hb.mono HC.out.size)); obtain ⟨hk, hk1, hbw⟩ := HK.out w3 HC.out; have c0 : w3.cell? ⟨w.heap.size, 0, none⟩ = some (.int .i64 k) := (by simp [World.cell?, hk]); have d0 : w3.cell? ⟨w.heap.size + 1, 0, none⟩ = some (.int .i64 0) := (by simp [World.cell?, hk1]); have c1 : w3.cell? ⟨w.heap.size, 1, none⟩ = some (.string p) := (by simp [World.cell?, hk]); have d1 : w3.cell? ⟨w.heap.size + 1, 1, none⟩ = some (.string ⟨#[]⟩) := (by simp [World.cell?, hk1]); have c2 : w3.cell? ⟨w.heap.size, 2, none⟩ = some (.string n) := (by simp [World.cell?, hk]); have d2 : w3.cell? ⟨w.heap.size + 1, 2, none⟩ = some (.string ⟨#[]⟩) := (by simp [World.cell?, hk1]); have c3 : w3.cell? ⟨w.heap.size, 3, none⟩ = some (.slice aa na ca) := (by simp [World.cell?, hk]); have d3 : w3.cell? ⟨w.heap.size + 1, 3, none⟩ = some (.slice none 0 0) := (by simp [World.cell?, hk1]); have c4 : w3.cell? ⟨w.heap.size, 4, none⟩ = some (.slice ar nr cr) := (by simp [World.cell?, hk]); have d4 : w3.cell? ⟨w.heap.size + 1, 4, none⟩ = some (.slice none 0 0) := (by simp [World.cell?, hk1]); have f0 : ∀ i, w3.frozen? ⟨w.heap.size, i, none⟩ = false := (fun i => by simp [World.frozen?, hk]); have f1 : ∀ i, w3.frozen? ⟨w.heap.size + 1, i, none⟩ = false := (fun i => by simp [World.frozen?, hk1]); have hs2 : w.heap.size + 1 < w3.heap.size := (Array.getElem?_eq_some_iff.1 hk1).1; have HBW := Lib.hid hbw; clear hk hk1 hbw hb; clear hu2))
  all_goals
    go_wp2_with fail
    refine bodyPost_ret (v := .agg #[.int .i64 k, .string p, .string n, .slice _ _ _, .slice _ _ _]) (by simp [results, Try.results39, go_sem, d0, d1, d2, d3, d4]; first | rfl | exact ⟨⟨rfl, rfl, rfl⟩, rfl, rfl, rfl⟩) rfl ⟨_, rfl, ?_, ?_⟩
    · have hsame : ∀ (u1 u2 v0 v1 v2 v3 v4 : Value) (b : Nat), w.heap.size + 2 ≤ b → (((((((w3.setCell ⟨w.heap.size, 3, none⟩ u1).setCell ⟨w.heap.size, 4, none⟩ u2).setCell ⟨w.heap.size + 1, 0, none⟩ v0).setCell ⟨w.heap.size + 1, 1, none⟩ v1).setCell ⟨w.heap.size + 1, 2, none⟩ v2).setCell ⟨w.heap.size + 1, 3, none⟩ v3).setCell ⟨w.heap.size + 1, 4, none⟩ v4).heap[b]? = w3.heap[b]? := by
        intro u1 u2 v0 v1 v2 v3 v4 b hb
        rw [Below.heap_setCell _ _ _ _ (by simp; omega), Below.heap_setCell _ _ _ _ (by simp; omega), Below.heap_setCell _ _ _ _ (by simp; omega), Below.heap_setCell _ _ _ _ (by simp; omega), Below.heap_setCell _ _ _ _ (by simp; omega), Below.heap_setCell _ _ _ _ (by simp; omega), Below.heap_setCell _ _ _ _ (by simp; omega)]
      have e : ((w.alloc (.cells #[.int .i64 k, .string p, .string n, .slice aa na ca, .slice ar nr cr] 31)).alloc (.cells #[.int .i64 0, .string ⟨#[]⟩, .string ⟨#[]⟩, .slice none 0 0, .slice none 0 0] 31)).drew.heap.size = w.heap.size + 2 := by show ((w.alloc (.cells #[.int .i64 k, .string p, .string n, .slice aa na ca, .slice ar nr cr] 31)).alloc (.cells #[.int .i64 0, .string ⟨#[]⟩, .string ⟨#[]⟩, .slice none 0 0, .slice none 0 0] 31)).heap.size = _; simp
      have hs2 := HC2.out.size
      have e' : ((w.alloc (.cells #[.int .i64 k, .string p, .string n, .slice aa na ca, .slice ar nr cr] 31)).alloc (.cells #[.int .i64 0, .string ⟨#[]⟩, .string ⟨#[]⟩, .slice none 0 0, .slice none 0 0] 31)).heap.size = w.heap.size + 2 := by simp
      refine ⟨_, _, rfl, HU1.out.kept (fun v t h => h.kept (fun b h1 h2 => ⟨by omega, (hsame _ _ _ _ _ _ _ b (by omega)).trans (HB2.out.block b h2)⟩)) (fun b h1 h2 => ⟨by omega, (hsame _ _ _ _ _ _ _ b (by omega)).trans (HB2.out.block b h2)⟩), HU2.out.kept (fun v t h => h.kept (fun b h1 h2 => ⟨by omega, hsame _ _ _ _ _ _ _ b (by omega)⟩)) (fun b h1 h2 => ⟨by omega, hsame _ _ _ _ _ _ _ b (by omega)⟩)⟩
    · exact (((((((HBW.out.setCell (by simp) _).setCell (by simp) _).setCell (by simp) _).setCell (by simp) _).setCell (by simp) _).setCell (by simp) _).setCell (by simp) _)

theorem copied_any (d : Nat) : ∀ (w : World) (v : Value) (t : Ty), Lies w d v t → sizT t ≤ 1000000000 → Calls Try.prog 39 #[v] w fun e w' => ∃ u, e = .returned u ∧ LiesIn (fun b => w.heap.size ≤ b) w' d u t ∧ Below w.heap.size w w' := by
  induction d with
  | zero => intro w v t h; exact h.elim
  | succ d ih =>
  intro w v t h hs
  obtain ⟨kd, p, nm, la, lr⟩ := t
  obtain ⟨va, vr, rfl, ha, hr⟩ := h
  rw [sizT] at hs
  have h1 := siz_len la
  have h2 := siz_len lr
  have f1 := ha.form
  have f2 := hr.form
  refine copied_x d w kd p nm va vr la lr (by obtain ⟨a, c, e, _⟩ := f1; exact ⟨_, _, _, e⟩) (by obtain ⟨a, c, e, _⟩ := f2; exact ⟨_, _, _, e⟩) (fun w' hb => each44_any d w' va la (ha.below hb) (by omega) (fun i hi => ?_) ) (fun w' hb => each44_any d w' vr lr (hr.below hb) (by omega) (fun i hi => ?_))
  · intro W v hv; exact ih W v _ hv (by have := siz_get la i hi; omega)
  · intro W v hv; exact ih W v _ hv (by have := siz_get lr i hi; omega)
end Go.Proofs.Ytcelpmojhjnggaa
