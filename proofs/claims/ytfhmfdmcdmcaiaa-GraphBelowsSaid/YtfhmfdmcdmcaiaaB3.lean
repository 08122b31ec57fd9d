/- The walk of Order: what is asked ahead of the work, and the calls that it makes. -/
import Derived.Test.YtfhmfdmcdmcaiaaB2
namespace Go.Proofs.Ytfhmfdmcdmcaiaa
open Go Go.RowKit Go.Sort
set_option maxHeartbeats 2000000
set_option maxRecDepth 100000

def lenV : Value → Nat
  | .slice _ n _ => n
  | _ => 0
theorem has17 {w : World} {b o c i : Nat} {nm : List ByteArray} (hc : ∀ (i : Nat) (x : ByteArray), nm[i]? = some x → w.cell? ⟨b, o + i, none⟩ = some (.string x)) (hi : i ≤ nm.length) (hl : nm.length ≤ 1000000) (s : ByteArray) : Calls Try.prog 17 #[.slice (some ⟨b, o, none⟩) i c, .string s] w fun e w' => e = .returned (.bool (Lib.containsS (nm.take i) s)) ∧ w' = w :=
  Try.slices_Contains_string b o i c nm s w hi (by omega) (fun j hj => by
    rw [hc j _ (List.getElem?_eq_getElem hj)]
    simp [List.getD_eq_getElem?_getD, List.getElem?_eq_getElem hj])
theorem has22 {w : World} {u : Value} {l : List Int} (h : IntR w u l) (x : Int) : Calls Try.prog 22 #[u, .int .i64 x] w fun e w' => e = .returned (.bool (l.contains x)) ∧ w' = w := by
  obtain ⟨a, c, rfl, h1, h2, h3⟩ := h
  rcases h3 with h3 | ⟨b, cur, rfl, hg, hc⟩
  · subst h3
    exact Try.slices_Contains_int_empty a c x w
  · have := Try.slices_Contains_int b 0 l.length c l x w (Nat.le_refl _) (by unfold maxLen at h2; omega) (fun j hj => by
      rw [cell_of hg (i := 0 + j) (by rw [Nat.zero_add]; exact hc j _ (List.getElem?_eq_getElem hj))]
      simp [List.getD_eq_getElem?_getD, List.getElem?_eq_getElem hj])
    rw [List.take_length] at this
    exact this
theorem edge_rows (nm : List ByteArray) (needs : List (List ByteArray)) (hb : badE nm needs = none) : Rows0 nm.length (edgeRow nm needs) := by
  refine ⟨fun k _ => once_nodup _, fun k hk x hx => ?_⟩
  unfold badE at hb
  rw [List.find?_range_eq_none] at hb
  have h1 := hb k hk
  unfold edgeRow at hx
  rw [once_mem] at hx
  unfold ids at hx
  obtain ⟨s, hs, rfl⟩ := List.mem_map.1 hx
  unfold badRow at h1
  have h2 : ¬ ((needOf needs k).any fun s => decide (Lib.idxOfS nm s < 0)) = true := by simpa using h1
  rw [List.any_eq_true] at h2
  apply Classical.byContradiction
  intro h3
  exact h2 ⟨s, hs, by simp; omega⟩
/-- rows of numbers: the i-th -/
theorem NInt.row {w : World} {T n c : Nat} {l : List (List Int)} (h : NInt w (.slice (some ⟨T, 0, none⟩) n c) l) (i : Nat) (x : List Int) (hx : l[i]? = some x) : ∃ u, w.cell? ⟨T, i, none⟩ = some u ∧ IntR w u x := by
  obtain ⟨T', c', cs, h1, h2, h3, h4, h5⟩ := h
  simp only [Value.slice.injEq, Option.some.injEq, Addr.mk.injEq, and_true] at h1
  obtain ⟨⟨rfl⟩, _, rfl⟩ := h1
  obtain ⟨u, h6, h7⟩ := h5 i x hx
  exact ⟨u, cell_of h4 h6, h7⟩
theorem NInt.shape {w : World} {v : Value} {l : List (List Int)} (h : NInt w v l) : ∃ T c, v = .slice (some ⟨T, 0, none⟩) l.length c ∧ l.length ≤ c ∧ c ≤ maxLen := by
  obtain ⟨T', c', cs, h1, h2, h3, h4, h5⟩ := h
  exact ⟨T', c', h1, h2, h3⟩
theorem IntR.shape {w : World} {v : Value} {l : List Int} (h : IntR w v l) : ∃ a c, v = .slice a l.length c ∧ l.length ≤ c ∧ c ≤ maxLen := by
  obtain ⟨a, c, h1, h2, h3, h4⟩ := h
  exact ⟨a, c, h1, h2, h3⟩
theorem make26 (w : World) (n : Nat) (hn : n ≤ 1000000) : (Instr.makeSlice 26 (.int .i64 n) (.int .i64 n)).run Try.prog w = .ok (.slice (some ⟨w.heap.size, 0, none⟩) n n) (w.alloc (.cells (madeCells #[.int .i64 0] n) 3)) := by
  obtain ⟨i9, hi9, hz90, hz91, hz92⟩ := info_parts info3
  have := run_make (P := Try.prog) w 26 3 i9 _ Try.underlying26 hi9 hz90 .i64 .i64 n n (by omega) (by omega) (by rw [hz92]; omega) (by omega)
  rw [hz91, show ((n : Int).toNat * 1) = n by omega] at this
  exact this
theorem Mem.start (w1 : World) (n : Nat) (vn : Value) (hn : n ≤ 1000000) : Mem w1 n vn ((w1.alloc (.cells (madeCells #[.int .i64 0] n) 3)).alloc (.cells #[.slice none 0 0, vn] 44)) none [] (List.replicate n 0) (.slice none 0 0) [] := by
  have hne : ((w1.alloc (.cells (madeCells #[.int .i64 0] n) 3)).alloc (.cells #[.slice none 0 0, vn] 44)).heap[w1.heap.size + 1]? = some (.cells #[.slice none 0 0, vn] 44) := by
    have := heap_alloc_new (w1.alloc (.cells (madeCells #[.int .i64 0] n) 3)) (.cells #[.slice none 0 0, vn] 44)
    simpa using this
  have hla : ((w1.alloc (.cells (madeCells #[.int .i64 0] n) 3)).alloc (.cells #[.slice none 0 0, vn] 44)).heap[w1.heap.size]? = some (.cells (madeCells #[.int .i64 0] n) 3) := by
    have := heap_alloc_new w1 (.cells (madeCells #[.int .i64 0] n) 3)
    rw [← this]
    have hb : Below (w1.alloc (.cells (madeCells #[.int .i64 0] n) 3)).heap.size (w1.alloc (.cells (madeCells #[.int .i64 0] n) 3)) ((w1.alloc (.cells (madeCells #[.int .i64 0] n) 3)).alloc (.cells #[.slice none 0 0, vn] 44)) := (Below.refl _ _).alloc (Nat.le_refl _) _
    exact hb.block _ (by simp)
  refine ⟨((Below.refl _ _).alloc (Nat.le_refl _) _).alloc (by simp) _, ⟨by omega, none, 0, hne, ⟨rfl, .inl ⟨rfl, rfl⟩⟩, rfl⟩, ⟨by simp, .inr ⟨w1.heap.size, n, _, rfl, Nat.le_refl _, hla, Nat.le_refl _, by unfold maxLen; omega, by simp [madeCells], ?_⟩⟩, by simp, ⟨rfl, .inl ⟨rfl, rfl⟩⟩, fun x hx => by simp [Value.ownBlock] at hx⟩
  apply List.ext_getElem?
  intro k
  by_cases hk : k < n
  · rw [List.getElem?_take_of_lt (by omega), Array.getElem?_toList, Array.getElem?_eq_getElem (by simp [madeCells]; exact hk)]
    simp [madeCells, hk, Nat.mod_one]
  · rw [List.getElem?_eq_none (by simp [madeCells]; omega), List.getElem?_eq_none (by simp; omega)]
end Go.Proofs.Ytfhmfdmcdmcaiaa
