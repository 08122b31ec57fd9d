/- The walks of num and of awake: the document's example. -/
import Derived.Test.YthmhbhlkbihdbaaB1
import Derived.Laws.StructEq
namespace Go.Proofs.Ythmhbhlkbihdbaa
open Go.RowKit LexP

theorem ex_awake : lexTop [120,32,58,61,32,53,59] = some (.good [⟨1,[120],0,0⟩,⟨5,[58,61],0,2⟩,⟨3,[53],5,5⟩,⟨5,[59],0,6⟩,⟨0,[],0,7⟩]) := by decide +kernel

set_option maxHeartbeats 400000 in
theorem num_any (n : Int) (w : World) : Calls Try.prog 12 #[.int .i64 n] w fun e w' => e = .returned (.int .i64 n) ∧ w = w' := by
  go_enter Try.func12, Try.ntmps12
  go_wp2
  go_ret
  exact ⟨rfl, rfl⟩

/-- a slice that holds tokens -/
structure TokRow (w : World) (v : Value) (l : List Tok) (g cap : Nat) : Prop where
  val : v = .slice (some ⟨g, 0, none⟩) l.length cap
  cell : ∀ j u, (toksC l)[j]? = some u → w.cell? ⟨g, j, none⟩ = some u

theorem TokRow.of_own {w : World} {B : Nat} {v : Value} {l : List Tok} (h : w.ownsRow B 31 4 v l.length (toksC l)) (hl : 0 < l.length) : ∃ g cap, B ≤ g ∧ TokRow w v l g cap := by
  obtain ⟨g, cap, rfl, hb, _⟩ := h.form hl
  refine ⟨g, cap, hb, rfl, fun j u hu => ?_⟩
  have := h.cells (g := g) rfl j u hu
  have hadd : (⟨g, 0, none⟩ : Addr).add j = ⟨g, j, none⟩ := by unfold Addr.add; split <;> simp_all
  rw [hadd] at this
  exact this

set_option maxRecDepth 100000 in
set_option maxHeartbeats 1000000 in
theorem awake_any (w : World) : Calls Try.prog 13 #[] w fun e w' => e = .returned (.bool true) ∧ Below w.heap.size w w' := by
  go_enter Try.func13, Try.ntmps13
  go_wp2_with fail
  refine (Lex_any _ w).mono ?_
  intro e w1 hq
  have hd : (ByteArray.mk #[120, 32, 58, 61, 32, 53, 59]).data.toList = [120, 32, 58, 61, 32, 53, 59] := rfl
  rw [hd, ex_awake] at hq
  obtain ⟨hb, v, rfl, hown⟩ := hq
  obtain ⟨g, cap, hg, rfl, hc⟩ := TokRow.of_own hown (by decide)
  have c4 := hc 4 _ rfl
  have c5 := hc 5 _ rfl
  have c6 := hc 6 _ rfl
  have c7 := hc 7 _ rfl
  have c10 := hc 10 _ rfl
  have c19 := hc 19 _ rfl
  have HB := Lib.hid hb
  clear hb hown hc hd
  simp only [List.length_cons, List.length_nil, Nat.zero_add, Nat.reduceAdd]
  go_wp2_with (first | go_quiet (fail) | (go_at_call 12; refine (num_any _ _).mono ?_; rintro e w2 ⟨rfl, rfl⟩))
  go_ret
  exact ⟨rfl, HB.out⟩
end Go.Proofs.Ythmhbhlkbihdbaa
