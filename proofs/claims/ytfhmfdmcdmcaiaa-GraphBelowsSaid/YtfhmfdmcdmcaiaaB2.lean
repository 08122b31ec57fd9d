/- What Order keeps in memory while it works. -/
import Derived.Test.YtfhmfdmcdmcaiaaB1
import Derived.Test.YtfhmfdmcdmcaiaaA8
namespace Go.Proofs.Ytfhmfdmcdmcaiaa
open Go Go.RowKit Go.Sort
set_option maxHeartbeats 2000000
set_option maxRecDepth 100000

structure Mem (w1 : World) (n : Nat) (vn : Value) (wr : World) (g : Option Nat) (h L : List Nat) (vo : Value) (out : List Nat) : Prop where
  bel : Below w1.heap.size w1 wr
  heap : HeapIs w1.heap.size (w1.heap.size + 1) vn wr g h
  lac : wr.ownsRow w1.heap.size 3 1 (.slice (some ⟨w1.heap.size, 0, none⟩) n n) n (L.map iv)
  gl : g ≠ some w1.heap.size
  out : wr.ownsRow w1.heap.size 3 1 vo out.length (out.map iv)
  ol : ∀ x, vo.ownBlock = some x → x ≠ w1.heap.size ∧ some x ≠ g ∧ x < wr.heap.size ∧ x ≠ w1.heap.size + 1
variable {w1 wr w' : World} {n : Nat} {vn vo : Value} {g : Option Nat} {h L out : List Nat}
theorem own_below {w w' : World} {B e size n : Nat} {v : Value} {xs : List Value} (h : w.ownsRow B e size v n xs) (hb : Below w.heap.size w w') : w'.ownsRow B e size v n xs :=
  h.kept (row := none) ⟨hb.os, hb.tape, hb.output, hb.size, fun k hk _ => hb.block k hk⟩ (by cases v.ownBlock <;> simp)
theorem own_two {w w' : World} {B e size n p : Nat} {g : Option Nat} {v : Value} {xs : List Value} (h : w.ownsRow B e size v n xs) (hb : Two p g w w') (hv : ∀ x, v.ownBlock = some x → x ≠ p ∧ some x ≠ g) : w'.ownsRow B e size v n xs := by
  refine ⟨h.1, ?_⟩
  rcases h.2 with h2 | ⟨y, cap, cur, e1, hB, hg, h3⟩
  · exact .inl h2
  · obtain ⟨a1, a2⟩ := hv y (by rw [e1]; rfl)
    exact .inr ⟨y, cap, cur, e1, hB, (hb.block y (lt_of hg) a1 a2).trans hg, h3⟩
theorem Mem.lsize (H : Mem w1 n vn wr g h L vo out) : w1.heap.size + 1 < wr.heap.size := by
  obtain ⟨_, _, _, h1, _⟩ := H.heap
  exact lt_of h1
theorem Mem.any (H : Mem w1 n vn wr g h L vo out) (hb : Below wr.heap.size wr w') : Mem w1 n vn w' g h L vo out :=
  ⟨H.bel.trans (hb.mono H.bel.size), H.heap.any hb, own_below H.lac hb, H.gl, own_below H.out hb, fun x hx => by
    obtain ⟨a, b, c, d⟩ := H.ol x hx
    exact ⟨a, b, Nat.lt_of_lt_of_le c hb.size, d⟩⟩
theorem Mem.heapop (H : Mem w1 n vn wr g h L vo out) {h' : List Nat} (hp : HeapPost w1.heap.size (w1.heap.size + 1) vn wr g h' w') : ∃ g', Mem w1 n vn w' g' h' L vo out := by
  obtain ⟨ht, g', hi, hg⟩ := hp
  have hls := H.lsize
  refine ⟨g', H.bel.trans (ht.below (by omega) (fun x hx => (H.heap.gb x hx).1) (by omega)), hi, own_two H.lac ht (fun x hx => ?_), ?_, own_two H.out ht (fun x hx => ?_), fun x hx => ?_⟩
  · have : w1.heap.size = x := by simpa [Value.ownBlock] using hx
    subst this
    exact ⟨by omega, fun e => H.gl e.symm⟩
  · rcases hg with e | ⟨x, e, hx⟩
    · rw [e]; exact H.gl
    · rw [e]; intro e2; have := Option.some.inj e2; omega
  · obtain ⟨a, b, c, d⟩ := H.ol x hx
    exact ⟨d, b⟩
  · obtain ⟨a, b, c, d⟩ := H.ol x hx
    refine ⟨a, ?_, Nat.lt_of_lt_of_le c ht.size, d⟩
    rcases hg with e | ⟨y, e, hy⟩
    · rw [e]; exact b
    · rw [e]; intro e2; have := Option.some.inj e2; omega
theorem iv_getD (L : List Nat) (k : Nat) (hk : k < L.length) : (L.map iv)[k]? = some (iv (L.getD k 1)) := by
  rw [List.getElem?_map, List.getElem?_eq_getElem hk]
  simp [List.getD_eq_getElem?_getD, List.getElem?_eq_getElem hk]
theorem Mem.lcell (H : Mem w1 n vn wr g h L vo out) (hl : L.length = n) (k : Nat) (hk : k < n) : wr.cell? ⟨w1.heap.size, k, none⟩ = some (iv (L.getD k 1)) ∧ wr.frozen? ⟨w1.heap.size, k, none⟩ = false := by
  have hc := H.lac.cells (g := w1.heap.size) rfl k _ (iv_getD L k (by omega))
  have e : (⟨w1.heap.size, 0, none⟩ : Addr).add k = ⟨w1.heap.size, k, none⟩ := by cases k <;> simp [Addr.add]
  rw [e] at hc
  refine ⟨hc, ?_⟩
  rcases H.lac.2 with ⟨e, _⟩ | ⟨y, cap, cur, e1, hB, hg, h3⟩
  · cases e
  · simp only [Value.slice.injEq, Option.some.injEq, Addr.mk.injEq, and_true] at e1
    obtain ⟨⟨rfl⟩, _, rfl⟩ := e1
    exact thaw_of hg k
theorem Mem.setL (H : Mem w1 n vn wr g h L vo out) (k x : Nat) : Mem w1 n vn (wr.setCell ⟨w1.heap.size, k, none⟩ (iv x)) g h (L.set k x) vo out := by
  have hne : ∀ b, b ≠ w1.heap.size → (wr.setCell ⟨w1.heap.size, k, none⟩ (iv x)).heap[b]? = wr.heap[b]? := fun b hb => Below.heap_setCell _ _ _ _ hb
  refine ⟨H.bel.setCell (Nat.le_refl _) _, ?_, ?_, H.gl, ?_, fun y hy => ?_⟩
  · obtain ⟨hp, a, cap, h1, h2, h3⟩ := H.heap
    refine ⟨hp, a, cap, (hne _ (by omega)).trans h1, ⟨h2.1, ?_⟩, h3⟩
    rcases h2.2 with h4 | ⟨y, c', cur, e1, hB, hg, h5⟩
    · exact .inl h4
    · refine .inr ⟨y, c', cur, e1, hB, (hne _ (fun e => ?_)).trans hg, h5⟩
      rw [e1] at h3
      have : some y = g := by simpa [Value.ownBlock] using h3
      exact H.gl (by rw [← this, e])
  · refine ⟨by simpa using H.lac.1, ?_⟩
    rcases H.lac.2 with ⟨e, _⟩ | ⟨y, cap, cur, e1, hB, hg, hnc, hcm, hsz, htk⟩
    · cases e
    · simp only [Value.slice.injEq, Option.some.injEq, Addr.mk.injEq, and_true] at e1
      obtain ⟨⟨rfl⟩, _, rfl⟩ := e1
      refine .inr ⟨_, _, _, rfl, hB, setAt _ hg, hnc, hcm, by simpa using hsz, ?_⟩
      rw [Array.toList_setIfInBounds, List.take_set, htk, List.map_set]
  · refine ⟨H.out.1, ?_⟩
    rcases H.out.2 with h4 | ⟨y, c', cur, e1, hB, hg, h5⟩
    · exact .inl h4
    · exact .inr ⟨y, c', cur, e1, hB, (hne _ ((H.ol y (by rw [e1]; rfl)).1)).trans hg, h5⟩
  · obtain ⟨a, b, c, d⟩ := H.ol y hy
    exact ⟨a, b, by simpa [World.setCell] using c, d⟩
/-- a number is laid behind the answer -/
theorem Mem.app (H : Mem w1 n vn wr g h L vo out) {wX w2 : World} {gg cap x : Nat} (hX : Below wr.heap.size wr wX) (hown : w2.ownsRow w1.heap.size 3 1 (.slice (some ⟨gg, 0, none⟩) (out.length + 1) cap) (out.length + 1) (out.map iv ++ [iv x])) (hg : wX.grownBy w2 vo.ownBlock) (hat : vo.ownBlock = some gg ∨ wr.heap.size ≤ gg) (hlt : gg < w2.heap.size) : Mem w1 n vn w2 g h L (.slice (some ⟨gg, 0, none⟩) (out.length + 1) cap) (out ++ [x]) := by
  have hls := H.lsize
  have hbl : ∀ b, b < wr.heap.size → some b ≠ vo.ownBlock → w2.heap[b]? = wr.heap[b]? := fun b hb hne => (hg.block b (Nat.lt_of_lt_of_le hb hX.size) hne).trans (hX.block b hb)
  have hbase : ∀ b, b < w1.heap.size → some b ≠ vo.ownBlock := fun b hb e => by
    rcases H.out.2 with ⟨e1, _⟩ | ⟨y, c', cur, e1, hB, _⟩
    · rw [e1] at e; cases e
    · rw [e1] at e
      have : b = y := by simpa [Value.ownBlock] using e
      omega
  have hnb : ∀ b, (∀ x, vo.ownBlock = some x → b ≠ x) → some b ≠ vo.ownBlock := fun b hb e => hb b e.symm rfl
  refine ⟨⟨hg.os.trans (hX.os.trans H.bel.os), hg.tape.trans (hX.tape.trans H.bel.tape), hg.output.trans (hX.output.trans H.bel.output), Nat.le_trans H.bel.size (Nat.le_trans hX.size hg.size), fun k hk => (hbl k (by omega) (hbase k hk)).trans (H.bel.block k hk)⟩, ?_, ?_, H.gl, by simpa using hown, fun y hy => ?_⟩
  · obtain ⟨hp, a, c, h1, h2, h3⟩ := H.heap
    refine ⟨hp, a, c, (hbl _ hls (hnb _ (fun x hx => by have := (H.ol x hx).2.2.2; omega))).trans h1, ⟨h2.1, ?_⟩, h3⟩
    rcases h2.2 with h4 | ⟨y, c', cur, e1, hB, hgy, h5⟩
    · exact .inl h4
    · refine .inr ⟨y, c', cur, e1, hB, (hbl _ (lt_of hgy) (hnb _ (fun x hx e => ?_))).trans hgy, h5⟩
      rw [e1] at h3
      have : some y = g := by simpa [Value.ownBlock] using h3
      exact (H.ol x hx).2.1 (by rw [← e, this])
  · refine ⟨H.lac.1, ?_⟩
    rcases H.lac.2 with h4 | ⟨y, c', cur, e1, hB, hgy, h5⟩
    · exact .inl h4
    · have e2 := e1
      simp only [Value.slice.injEq, Option.some.injEq, Addr.mk.injEq, and_true] at e2
      obtain ⟨⟨rfl⟩, _, rfl⟩ := e2
      exact .inr ⟨_, _, cur, e1, hB, (hbl _ (by omega) (hnb _ (fun x hx => ((H.ol x hx).1).symm))).trans hgy, h5⟩
  · have : gg = y := by simpa [Value.ownBlock] using hy
    subst this
    rcases hat with e | e
    · obtain ⟨a, b, c, d⟩ := H.ol gg e
      exact ⟨a, b, hlt, d⟩
    · refine ⟨by omega, fun e2 => ?_, hlt, by omega⟩
      have := (H.heap.gb gg e2.symm).2.1
      omega
end Go.Proofs.Ytfhmfdmcdmcaiaa
