/- The document's Put: what one round of its loops does to the memory, in plain words. -/
import Derived.Test.YtcelpmojhjnggaaN0
namespace Go.Proofs.Ytcelpmojhjnggaa
open Go Go.RowKit Go.Sort Go.Deep KindsP
set_option maxHeartbeats 1000000
set_option maxRecDepth 100000

abbrev five5 (t0 : Int) (t1 t2 : ByteArray) (t3 : Option Addr) (t4 t5 : Nat) (t6 : Option Addr) (t7 t8 : Nat) : Array Value := #[.int .i64 t0, .string t1, .string t2, .slice t3 t4 t5, .slice t6 t7 t8]
/-- rows behind B that a slice does not own itself -/
abbrev Beside (B : Nat) (wr : World) (v : Value) : Nat → Prop := fun b => B ≤ b ∧ b < wr.heap.size ∧ v.ownBlock ≠ some b
theorem grow_round {wr w2 w3 : World} {B U D f i cap gg cp : Nat} {ao : Option Addr} {vs : List Value} {ts : List Ty} {t : Ty} {t0 : Int} {t1 t2 : ByteArray} {t3 : Option Addr} {t4 t5 : Nat} {t6 : Option Addr} {t7 t8 : Nat}
    (hU : U < B) (hBr : B ≤ wr.heap.size)
    (hown : wr.ownsRow B 31 5 (.slice ao i cap) i (vs.flatMap cells5)) (hvs : Vals (LiesIn (Beside B wr (.slice ao i cap)) wr D) vs ts)
    (hb2 : Below wr.heap.size wr w2) (hlu : LiesIn (fun b => wr.heap.size ≤ b) w2 D (.agg (five5 t0 t1 t2 t3 t4 t5 t6 t7 t8)) t)
    (hg : (w2.alloc (.cells (five5 t0 t1 t2 t3 t4 t5 t6 t7 t8) 31)).grownBy w3 (Value.slice ao i cap).ownBlock)
    (hown3 : w3.ownsRow B 31 5 (.slice (some ⟨gg, 0, none⟩) (i + 1) cp) (i + 1) (vs.flatMap cells5 ++ (five5 t0 t1 t2 t3 t4 t5 t6 t7 t8).toList))
    (hat : (Value.slice ao i cap).ownBlock = some gg ∨ gg = w2.heap.size + 1) :
    (w3.setCell ⟨U, f, none⟩ (.slice (some ⟨gg, 0, none⟩) (i + 1) cp)).ownsRow B 31 5 (.slice (some ⟨gg, 0, none⟩) (i + 1) cp) (i + 1) ((vs ++ [Value.agg (five5 t0 t1 t2 t3 t4 t5 t6 t7 t8)]).flatMap cells5) ∧
    Vals (LiesIn (Beside B (w3.setCell ⟨U, f, none⟩ (.slice (some ⟨gg, 0, none⟩) (i + 1) cp)) (.slice (some ⟨gg, 0, none⟩) (i + 1) cp)) (w3.setCell ⟨U, f, none⟩ (.slice (some ⟨gg, 0, none⟩) (i + 1) cp)) D) (vs ++ [Value.agg (five5 t0 t1 t2 t3 t4 t5 t6 t7 t8)]) (ts ++ [t]) ∧
    (∀ b, b < wr.heap.size → b ≠ U → (Value.slice ao i cap).ownBlock ≠ some b → (w3.setCell ⟨U, f, none⟩ (.slice (some ⟨gg, 0, none⟩) (i + 1) cp)).heap[b]? = wr.heap[b]?) ∧
    (∀ cs ty fr, wr.heap[U]? = some (.cells cs ty fr) → w3.heap[U]? = some (.cells cs ty fr) ∧ (w3.setCell ⟨U, f, none⟩ (.slice (some ⟨gg, 0, none⟩) (i + 1) cp)).heap[U]? = some (.cells (cs.setIfInBounds f (.slice (some ⟨gg, 0, none⟩) (i + 1) cp)) ty fr)) ∧
    wr.heap.size ≤ (w3.setCell ⟨U, f, none⟩ (.slice (some ⟨gg, 0, none⟩) (i + 1) cp)).heap.size ∧
    (∀ (w : World) (N : Nat), N ≤ U → Below N w wr → Below N w (w3.setCell ⟨U, f, none⟩ (.slice (some ⟨gg, 0, none⟩) (i + 1) cp))) := by
  have hgo := fun g hg => hown.lt g hg
  have hsz2 := hb2.size
  have hs3 := hg.size
  simp at hs3
  have hset : ∀ b, b ≠ U → (w3.setCell ⟨U, f, none⟩ (.slice (some ⟨gg, 0, none⟩) (i + 1) cp)).heap[b]? = w3.heap[b]? := fun b hb => Below.heap_setCell _ _ _ _ hb
  have hsz : (w3.setCell ⟨U, f, none⟩ (.slice (some ⟨gg, 0, none⟩) (i + 1) cp)).heap.size = w3.heap.size := by simp
  have hold : ∀ b, b < wr.heap.size → (Value.slice ao i cap).ownBlock ≠ some b → w3.heap[b]? = wr.heap[b]? := by
    intro b hlt h3
    have e2 := heap_alloc_old w2 (.cells (five5 t0 t1 t2 t3 t4 t5 t6 t7 t8) 31) (r := b) (by omega)
    exact (hg.block b (by simp <;> omega) (Ne.symm h3)).trans (e2.trans (hb2.block b hlt))
  have hUn : (Value.slice ao i cap).ownBlock ≠ some U := fun e => by have := (hgo U e).1; omega
  generalize hW : w3.setCell ⟨U, f, none⟩ (.slice (some ⟨gg, 0, none⟩) (i + 1) cp) = W at hset hsz ⊢
  have hggU : gg ≠ U := by
    intro e
    rcases hat with h | h
    · exact hUn (by rw [h, e])
    · omega
  refine ⟨?_, ?_, fun b h1 h2 h3 => (hset b h2).trans (hold b h1 h3), fun cs ty fr h => ?_, by omega, fun w N hN hb => ?_⟩
  · rw [List.flatMap_append]
    refine ⟨hown3.1, ?_⟩
    rcases hown3.2 with ⟨h, _⟩ | ⟨g, c, cur, h1, h2, h3, h4⟩
    · simp at h
    · obtain ⟨rfl, rfl⟩ : gg = g ∧ cp = c := by simpa using h1
      exact .inr ⟨gg, cp, cur, h1, h2, (hset gg hggU).trans h3, h4⟩
  · refine (hvs.mono (fun _ _ h => h.kept (fun b hb hlt => ?_))).snoc (hlu.kept (fun b hb hlt => ?_))
    · obtain ⟨h1, h2, h3⟩ := hb
      refine ⟨⟨h1, by omega, ?_⟩, (hset b (by omega)).trans (hold b h2 h3)⟩
      rcases hat with h | h
      · intro e; apply h3; rw [h]; exact e
      · intro e; have : gg = b := by simpa [Value.ownBlock] using e
        omega
    · have hne : ∀ g, (Value.slice ao i cap).ownBlock = some g → g ≠ b := fun g hg => by have := (hgo g hg).2; omega
      have e2 := heap_alloc_old w2 (.cells (five5 t0 t1 t2 t3 t4 t5 t6 t7 t8) 31) (r := b) hlt
      have e3 := hg.block b (by simp <;> omega) (fun e => hne b e.symm rfl)
      refine ⟨⟨by omega, by omega, ?_⟩, (hset b (by omega)).trans (e3.trans e2)⟩
      intro e
      have : gg = b := by simpa [Value.ownBlock] using e
      rcases hat with h | h
      · exact hne gg h this
      · omega
  · have hlt := (Array.getElem?_eq_some_iff.1 h).1
    have h3 := (hold U hlt hUn).trans h
    refine ⟨h3, ?_⟩
    rw [← hW]
    simp [World.setCell, Array.getElem?_modify, h3]
  · rw [← hW]
    exact (((hb.trans (hb2.mono (by omega))).alloc (by omega) _).grown hg (by simp <;> omega) (fun g hg => by have := (hgo g hg).1; omega)).setCell (by simp; omega) _
end Go.Proofs.Ytcelpmojhjnggaa
