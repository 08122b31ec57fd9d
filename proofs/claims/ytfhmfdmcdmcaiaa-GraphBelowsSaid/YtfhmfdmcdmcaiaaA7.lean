/- The walk of edges: what is imported, as numbers. -/
import Derived.Test.YtfhmfdmcdmcaiaaA6
namespace Go.Proofs.Ytfhmfdmcdmcaiaa
open Go Go.RowKit Go.Sort
set_option maxHeartbeats 4000000
set_option maxRecDepth 100000

/-! ### Plain -/
def needOf (needs : List (List ByteArray)) (i : Nat) : List ByteArray := needs.getD i []
def ids (nm ss : List ByteArray) : List Int := ss.map (Lib.idxOfS nm)
def edgeRow (nm : List ByteArray) (needs : List (List ByteArray)) (i : Nat) : List Int := once (ids nm (needOf needs i))
def badRow (nm ss : List ByteArray) : Bool := ss.any fun s => decide (Lib.idxOfS nm s < 0)
def badE (nm : List ByteArray) (needs : List (List ByteArray)) : Option Nat := (List.range nm.length).find? fun i => badRow nm (needOf needs i)

/-! ### In memory -/
def NStr (w : World) (v : Value) (l : List (List ByteArray)) : Prop := ∃ a c, v = .slice a l.length c ∧ l.length ≤ c ∧ c ≤ maxLen ∧ (l = [] ∨ ∃ b o, a = some ⟨b, o, none⟩ ∧ ∀ (i : Nat) (x : List ByteArray), l[i]? = some x → ∃ u, w.cell? ⟨b, o + i, none⟩ = some u ∧ StrRow w u x)
theorem NStr.below {w w' : World} {v : Value} {l : List (List ByteArray)} (h : NStr w v l) (hb : Below w.heap.size w w') : NStr w' v l := by
  obtain ⟨a, c, h1, h2, h3, h4⟩ := h
  refine ⟨a, c, h1, h2, h3, ?_⟩
  rcases h4 with h4 | ⟨b, o, h6, h7⟩
  · exact .inl h4
  · refine .inr ⟨b, o, h6, fun i m hm => ?_⟩
    obtain ⟨u, h8, h9⟩ := h7 i m hm
    exact ⟨u, (hb.cell (World.block_lt_of_cell? w _ h8)).trans h8, h9.below hb⟩
/-- numbers can be read -/
def IntR (w : World) (v : Value) (l : List Int) : Prop := ∃ a c, v = .slice a l.length c ∧ l.length ≤ c ∧ c ≤ maxLen ∧ (l = [] ∨ ∃ b cur, a = some ⟨b, 0, none⟩ ∧ w.heap[b]? = some (.cells cur 3) ∧ ∀ (i : Nat) (x : Int), l[i]? = some x → cur[i]? = some (.int .i64 x))
theorem IntR.own {w : World} {base n : Nat} {v : Value} {l : List Int} (h : w.ownsRow base 3 1 v n (l.map (Value.int .i64))) : IntR w v l := by
  have hl : l.length = n := by have := h.1; simpa using this
  rcases h.2 with ⟨rfl, h0⟩ | ⟨g, cap, cur, rfl, hB, hg, hnc, hcm, hsz, htk⟩
  · exact ⟨none, 0, by rw [hl, h0], by omega, by unfold maxLen; omega, .inl (List.length_eq_zero_iff.1 (by omega))⟩
  · refine ⟨_, cap, by rw [hl], by omega, hcm, .inr ⟨g, cur, rfl, hg, fun i x hx => ?_⟩⟩
    have hi : i < l.length := (List.getElem?_eq_some_iff.1 hx).1
    have h1 : (cur.toList.take (n * 1))[i]? = (l.map (Value.int .i64))[i]? := by rw [htk]
    rw [List.getElem?_take_of_lt (by omega), Array.getElem?_toList, List.getElem?_map, hx] at h1
    exact h1
theorem IntR.kept {w w' : World} {v : Value} {l : List Int} (h : IntR w v l) (hb : ∀ b cur, b < w.heap.size → w.heap[b]? = some (.cells cur 3) → w'.heap[b]? = w.heap[b]?) : IntR w' v l := by
  obtain ⟨a, c, h1, h2, h3, h4⟩ := h
  refine ⟨a, c, h1, h2, h3, ?_⟩
  rcases h4 with h4 | ⟨b, cur, h6, h7, h8⟩
  · exact .inl h4
  · exact .inr ⟨b, cur, h6, (hb b cur (lt_of h7) h7).trans h7, h8⟩
/-- rows of numbers can be read -/
def NInt (w : World) (v : Value) (l : List (List Int)) : Prop := ∃ T c cs, v = .slice (some ⟨T, 0, none⟩) l.length c ∧ l.length ≤ c ∧ c ≤ maxLen ∧ w.heap[T]? = some (.cells cs 26) ∧ ∀ (i : Nat) (x : List Int), l[i]? = some x → ∃ u, cs[i]? = some u ∧ IntR w u x
theorem NInt.below {w w' : World} {v : Value} {l : List (List Int)} (h : NInt w v l) (hb : Below w.heap.size w w') : NInt w' v l := by
  obtain ⟨T, c, cs, h1, h2, h3, h4, h5⟩ := h
  refine ⟨T, c, cs, h1, h2, h3, (hb.block T (lt_of h4)).trans h4, fun i x hx => ?_⟩
  obtain ⟨u, h6, h7⟩ := h5 i x hx
  exact ⟨u, h6, h7.kept (fun b _ hl _ => hb.block b hl)⟩
theorem index27 {w : World} {v : Value} {nm : List ByteArray} (h : StrRow w v nm) (s : ByteArray) : Calls Try.prog 27 #[v, .string s] w fun e w' => e = .returned (.int .i64 (Lib.idxOfS nm s)) ∧ w' = w := by
  obtain ⟨a, c, rfl, h1, h2, h3⟩ := h
  rcases h3 with h3 | ⟨b, o, rfl, hc⟩
  · subst h3
    exact Try.slices_Index_string_empty a c s w
  · have := Try.slices_Index_string b o nm.length c nm s w (Nat.le_refl _) (by unfold maxLen at h2; omega) (fun j hj => by
      have := hc j _ (List.getElem?_eq_getElem hj)
      rw [this]
      simp [List.getD_eq_getElem?_getD, List.getElem?_eq_getElem hj])
    rw [List.take_length] at this
    exact this
theorem info26 : (Try.prog.info? 26).map (fun i => (i.zero, i.size, i.bytes)) = some (some (.slice none 0 0), 1, 24) := by kernel_rfl
theorem make39 (w : World) (n : Nat) (hn : n ≤ 1000000) : (Instr.makeSlice 39 (.int .i64 n) (.int .i64 n)).run Try.prog w = .ok (.slice (some ⟨w.heap.size, 0, none⟩) n n) (w.alloc (.cells (madeCells #[.slice none 0 0] n) 26)) := by
  obtain ⟨i9, hi9, hz90, hz91, hz92⟩ := info_parts info26
  have := run_make (P := Try.prog) w 39 26 i9 _ Try.underlying39 hi9 hz90 .i64 .i64 n n (by omega) (by omega) (by rw [hz92]; omega) (by omega)
  rw [hz91, show ((n : Int).toNat * 1) = n by omega] at this
  exact this
/-- the rows below i are laid out, the others are still empty -/
structure EInv (w0 : World) (T n : Nat) (row : Nat → List Int) (i : Nat) (wr : World) (cs : Array Value) : Prop where
  bel : Below w0.heap.size w0 wr
  at_ : wr.heap[T]? = some (.cells cs 26)
  sz : cs.size = n
  done : ∀ k, k < i → ∃ u, cs[k]? = some u ∧ IntR wr u (row k)
  rest : ∀ k, i ≤ k → k < n → cs[k]? = some (.slice none 0 0)
/-- one row is under way -/
structure RowIn (T i : Nat) (cs : Array Value) (wr : World) (v : Value) (n : Nat) (zs : List Int) (wx : World) : Prop where
  two : Two T none wr wx
  at_ : wx.heap[T]? = some (.cells (cs.setIfInBounds i v) 26)
  own : wx.ownsRow wr.heap.size 3 1 v n (zs.map (Value.int .i64))
theorem RowIn.gb {T i n : Nat} {cs : Array Value} {wr wx : World} {v : Value} {zs : List Int} (h : RowIn T i cs wr v n zs wx) : ∀ x, v.ownBlock = some x → wr.heap.size ≤ x ∧ x < wx.heap.size ∧ x ≠ T := by
  intro x hx
  rcases h.own.2 with ⟨e, _⟩ | ⟨g, cap, cur, e, hB, hg, _⟩
  · rw [e] at hx; cases hx
  · rw [e] at hx
    have : g = x := by simpa [Value.ownBlock] using hx
    subst this
    refine ⟨hB, lt_of hg, fun e2 => ?_⟩
    rw [e2, h.at_] at hg
    simp at hg
/-- the row is turned in its own memory, and laid back -/
theorem RowIn.turn {T i n m : Nat} {cs : Array Value} {wr wx wy w2 : World} {v v2 : Value} {zs zs2 : List Int} (h : RowIn T i cs wr v n zs wx) (hi : i < cs.size) (hby : Below wx.heap.size wx wy) (hown : w2.ownsRow wr.heap.size 3 1 v2 m (zs2.map (Value.int .i64))) (hg : wy.grownBy w2 v.ownBlock) (hv2 : ∀ x, v2.ownBlock = some x → x ≠ T) :
    w2.cell? ⟨T, i, none⟩ = some v ∧ w2.frozen? ⟨T, i, none⟩ = false ∧ RowIn T i cs wr v2 m zs2 (w2.setCell ⟨T, i, none⟩ v2) := by
  have hTx : T < wx.heap.size := lt_of h.at_
  have hT2 : w2.heap[T]? = some (.cells (cs.setIfInBounds i v) 26) := (hg.block T (Nat.lt_of_lt_of_le hTx hby.size) (fun e => (h.gb T e.symm).2.2 rfl)).trans ((hby.block T hTx).trans h.at_)
  refine ⟨cell_of hT2 (by simp [hi]), thaw_of hT2 i, ⟨?_, ?_, ?_⟩⟩
  · have h1 : Two T none wr w2 := by
      refine ⟨hg.os.trans (hby.os.trans h.two.os), hg.tape.trans (hby.tape.trans h.two.tape), hg.output.trans (hby.output.trans h.two.output), Nat.le_trans h.two.size (Nat.le_trans hby.size hg.size), fun k hk hkT _ => ?_⟩
      have hkx : k < wx.heap.size := Nat.lt_of_lt_of_le hk h.two.size
      exact (hg.block k (Nat.lt_of_lt_of_le hkx hby.size) (fun e => by have := (h.gb k e.symm).1; omega)).trans ((hby.block k hkx).trans (h.two.block k hk hkT (by simp)))
    exact h1.set T i _ (.inl rfl)
  · have := setAt (i := i) v2 hT2
    rw [Array.setIfInBounds_setIfInBounds] at this
    exact this
  · refine ⟨hown.1, ?_⟩
    rcases hown.2 with h2 | ⟨g, cap, cur, e1, hB, hgg, h3⟩
    · exact .inl h2
    · exact .inr ⟨g, cap, cur, e1, hB, (Below.heap_setCell _ _ _ _ (hv2 g (by rw [e1]; rfl))).trans hgg, h3⟩
theorem RowIn.sorted {T i n : Nat} {cs : Array Value} {wr wx w2 : World} {v : Value} {zs zs2 : List Int} (h : RowIn T i cs wr v n zs wx) (hown : w2.ownsRow wr.heap.size 3 1 v n (zs2.map (Value.int .i64))) (hg : wx.grownBy w2 v.ownBlock) : RowIn T i cs wr v n zs2 w2 := by
  have hTx : T < wx.heap.size := lt_of h.at_
  refine ⟨⟨hg.os.trans h.two.os, hg.tape.trans h.two.tape, hg.output.trans h.two.output, Nat.le_trans h.two.size hg.size, fun k hk hkT hn => ?_⟩, (hg.block T hTx (fun e => (h.gb T e.symm).2.2 rfl)).trans h.at_, hown⟩
  exact (hg.block k (Nat.lt_of_lt_of_le hk h.two.size) (fun e => by have := (h.gb k e.symm).1; omega)).trans (h.two.block k hk hkT hn)
theorem idxOfS_cases (nm : List ByteArray) (s : ByteArray) : Lib.idxOfS nm s < 0 ∨ 0 ≤ Lib.idxOfS nm s := by omega
theorem find_first {n i : Nat} {p : Nat → Bool} (hi : i < n) (hp : p i = true) (h : ∀ k, k < i → p k = false) : (List.range n).find? p = some i := by
  rw [List.find?_range_eq_some]
  exact ⟨hp, by simpa using hi, fun j hj => by rw [h j hj]; rfl⟩
theorem find_none {n : Nat} {p : Nat → Bool} (h : ∀ k, k < n → p k = false) : (List.range n).find? p = none := by
  rw [List.find?_range_eq_none]
  intro k hk
  rw [h k hk]; rfl
theorem EInv.start {w0 : World} {n : Nat} {row : Nat → List Int} : EInv w0 w0.heap.size n row 0 (w0.alloc (.cells (madeCells #[.slice none 0 0] n) 26)) (madeCells #[.slice none 0 0] n) := by
  refine ⟨(Below.refl _ _).alloc (Nat.le_refl _) _, heap_alloc_new _ _, by simp [madeCells], fun k hk => by omega, fun k _ hk => ?_⟩
  rw [Array.getElem?_eq_getElem (by simp [madeCells]; exact hk)]
  simp [madeCells, Nat.mod_one]
theorem EInv.next {w0 wr wx : World} {T n i m : Nat} {row : Nat → List Int} {cs : Array Value} {v : Value} (h : EInv w0 T n row i wr cs) (hi : i < n) (hT : w0.heap.size ≤ T) (hr : RowIn T i cs wr v m (row i) wx) : EInv w0 T n row (i + 1) wx (cs.setIfInBounds i v) := by
  have hTs := lt_of h.at_
  refine ⟨h.bel.trans (hr.two.below hT (fun x e => by cases e) (by have := h.bel.size; omega)), hr.at_, by simpa using h.sz, fun k hk => ?_, fun k h1 h2 => ?_⟩
  · by_cases e : k = i
    · subst e
      exact ⟨v, by rw [Array.getElem?_setIfInBounds_self_of_lt (by rw [h.sz]; exact hi)], IntR.own hr.own⟩
    · obtain ⟨u, h3, h4⟩ := h.done k (by omega)
      refine ⟨u, by rw [Array.getElem?_setIfInBounds_ne (Ne.symm e)]; exact h3, h4.kept (fun b cur hb hc => hr.two.block b hb (fun e2 => ?_) (by simp))⟩
      rw [e2, h.at_] at hc
      simp at hc
  · rw [Array.getElem?_setIfInBounds_ne (by omega)]
    exact h.rest k (by omega) h2
theorem RowIn.start {w0 wr : World} {T n i : Nat} {row : Nat → List Int} {cs : Array Value} (h : EInv w0 T n row i wr cs) (hi : i < n) : RowIn T i cs wr (.slice none 0 0) 0 [] wr := by
  refine ⟨Two.refl _ _ _, ?_, ⟨rfl, .inl ⟨rfl, rfl⟩⟩⟩
  have h1 := h.rest i (Nat.le_refl _) hi
  have : cs.setIfInBounds i (.slice none 0 0) = cs := by
    apply Array.ext_getElem?
    intro k
    by_cases e : k = i
    · subst e
      rw [Array.getElem?_setIfInBounds_self_of_lt (by rw [h.sz]; exact hi), h1]
    · rw [Array.getElem?_setIfInBounds_ne (Ne.symm e)]
  rw [this]
  exact h.at_
end Go.Proofs.Ytfhmfdmcdmcaiaa
