/- Rings and chains of packages: what lies in memory while they are made. -/
import Derived.Test.YtfhmfdmcdmcaiaaF0
import Derived.Laws.IdiomStrings
namespace Go.Proofs.Ytfhmfdmcdmcaiaa
open Go Go.RowKit Go.Sort
set_option maxHeartbeats 4000000
set_option maxRecDepth 100000

theorem word14 (w : World) (i : Nat) (hi : i < 8) : Calls Try.prog 14 #[iv i] w fun e w' => e = .returned (.string (wd i)) ∧ Below w.heap.size w w' := by
  have hcv : ∀ (b : Nat), b < 256 → (w.alloc (.cells #[.int .u8 112, .int .u8 (b : Int)] 5)).heap.size = w.heap.size + 1 → (convert 53 9 (.slice (some ⟨w.heap.size, 0, none⟩) 2 2)).run Try.prog (w.alloc (.cells #[.int .u8 112, .int .u8 (b : Int)] 5)) = .ok (.string ⟨#[112, UInt8.ofNat b]⟩) (w.alloc (.cells #[.int .u8 112, .int .u8 (b : Int)] 5)) := fun b hb _ =>
    run_convert_bytes_back (P := Try.prog) _ 53 9 5 ⟨w.heap.size, 0, none⟩ 2 [112, UInt8.ofNat b] Try.underlying53 Try.underlying5 Try.underlying9 (fun j hj => by
      have hj2 : j < 2 := hj
      have e : (⟨w.heap.size, 0, none⟩ : Addr).add j = ⟨w.heap.size, j, none⟩ := by cases j <;> simp [Addr.add]
      rw [e, World.cell?_alloc_mark]
      match j, hj2 with
      | 0, _ => rfl
      | 1, _ =>
        have : (UInt8.ofNat b).toNat = b := by simp; omega
        simp [this])
  have hc := fun b hb => hcv b hb (by simp)
  clear hcv
  match i, hi with
  | 0, _ =>
    have c : (convert 53 9 (.slice (some ⟨w.heap.size, 0, none⟩) 2 2)).run Try.prog (w.alloc (.cells #[.int .u8 112, .int .u8 97] 5)) = .ok (.string (wd 0)) (w.alloc (.cells #[.int .u8 112, .int .u8 97] 5)) := hc 97 (by omega)
    clear hc
    go_enter Try.func14, Try.ntmps14
    go_wp2_with fail
    go_ret
    exact ⟨rfl, (Below.refl _ _).alloc (Nat.le_refl _) _⟩
  | 1, _ =>
    have c : (convert 53 9 (.slice (some ⟨w.heap.size, 0, none⟩) 2 2)).run Try.prog (w.alloc (.cells #[.int .u8 112, .int .u8 98] 5)) = .ok (.string (wd 1)) (w.alloc (.cells #[.int .u8 112, .int .u8 98] 5)) := hc 98 (by omega)
    clear hc
    go_enter Try.func14, Try.ntmps14
    go_wp2_with fail
    go_ret
    exact ⟨rfl, (Below.refl _ _).alloc (Nat.le_refl _) _⟩
  | 2, _ =>
    have c : (convert 53 9 (.slice (some ⟨w.heap.size, 0, none⟩) 2 2)).run Try.prog (w.alloc (.cells #[.int .u8 112, .int .u8 99] 5)) = .ok (.string (wd 2)) (w.alloc (.cells #[.int .u8 112, .int .u8 99] 5)) := hc 99 (by omega)
    clear hc
    go_enter Try.func14, Try.ntmps14
    go_wp2_with fail
    go_ret
    exact ⟨rfl, (Below.refl _ _).alloc (Nat.le_refl _) _⟩
  | 3, _ =>
    have c : (convert 53 9 (.slice (some ⟨w.heap.size, 0, none⟩) 2 2)).run Try.prog (w.alloc (.cells #[.int .u8 112, .int .u8 100] 5)) = .ok (.string (wd 3)) (w.alloc (.cells #[.int .u8 112, .int .u8 100] 5)) := hc 100 (by omega)
    clear hc
    go_enter Try.func14, Try.ntmps14
    go_wp2_with fail
    go_ret
    exact ⟨rfl, (Below.refl _ _).alloc (Nat.le_refl _) _⟩
  | 4, _ =>
    have c : (convert 53 9 (.slice (some ⟨w.heap.size, 0, none⟩) 2 2)).run Try.prog (w.alloc (.cells #[.int .u8 112, .int .u8 101] 5)) = .ok (.string (wd 4)) (w.alloc (.cells #[.int .u8 112, .int .u8 101] 5)) := hc 101 (by omega)
    clear hc
    go_enter Try.func14, Try.ntmps14
    go_wp2_with fail
    go_ret
    exact ⟨rfl, (Below.refl _ _).alloc (Nat.le_refl _) _⟩
  | 5, _ =>
    have c : (convert 53 9 (.slice (some ⟨w.heap.size, 0, none⟩) 2 2)).run Try.prog (w.alloc (.cells #[.int .u8 112, .int .u8 102] 5)) = .ok (.string (wd 5)) (w.alloc (.cells #[.int .u8 112, .int .u8 102] 5)) := hc 102 (by omega)
    clear hc
    go_enter Try.func14, Try.ntmps14
    go_wp2_with fail
    go_ret
    exact ⟨rfl, (Below.refl _ _).alloc (Nat.le_refl _) _⟩
  | 6, _ =>
    have c : (convert 53 9 (.slice (some ⟨w.heap.size, 0, none⟩) 2 2)).run Try.prog (w.alloc (.cells #[.int .u8 112, .int .u8 103] 5)) = .ok (.string (wd 6)) (w.alloc (.cells #[.int .u8 112, .int .u8 103] 5)) := hc 103 (by omega)
    clear hc
    go_enter Try.func14, Try.ntmps14
    go_wp2_with fail
    go_ret
    exact ⟨rfl, (Below.refl _ _).alloc (Nat.le_refl _) _⟩
  | 7, _ =>
    have c : (convert 53 9 (.slice (some ⟨w.heap.size, 0, none⟩) 2 2)).run Try.prog (w.alloc (.cells #[.int .u8 112, .int .u8 104] 5)) = .ok (.string (wd 7)) (w.alloc (.cells #[.int .u8 112, .int .u8 104] 5)) := hc 104 (by omega)
    clear hc
    go_enter Try.func14, Try.ntmps14
    go_wp2_with fail
    go_ret
    exact ⟨rfl, (Below.refl _ _).alloc (Nat.le_refl _) _⟩

/-! ### Rows that are made side by side -/
/-- names in a block of their own kind, of which S is known -/
def StrS (S : Nat → Prop) (w : World) (v : Value) (l : List ByteArray) : Prop := ∃ a c, v = .slice a l.length c ∧ l.length ≤ c ∧ c ≤ maxLen ∧ (l = [] ∨ ∃ b cur, a = some ⟨b, 0, none⟩ ∧ S b ∧ w.heap[b]? = some (.cells cur 9) ∧ ∀ (i : Nat) (x : ByteArray), l[i]? = some x → cur[i]? = some (.string x))
theorem StrS.kept {S S' : Nat → Prop} {w w' : World} {v : Value} {l : List ByteArray} (h : StrS S w v l) (hb : ∀ b cur, b < w.heap.size → S b → w.heap[b]? = some (.cells cur 9) → w'.heap[b]? = w.heap[b]? ∧ S' b) : StrS S' w' v l := by
  obtain ⟨a, c, h1, h2, h3, h4⟩ := h
  refine ⟨a, c, h1, h2, h3, ?_⟩
  rcases h4 with h4 | ⟨b, cur, h6, hs, h7, h8⟩
  · exact .inl h4
  · obtain ⟨g1, g2⟩ := hb b cur (lt_of h7) hs h7
    exact .inr ⟨b, cur, h6, g2, g1.trans h7, h8⟩
theorem StrS.str {S : Nat → Prop} {w : World} {v : Value} {l : List ByteArray} (h : StrS S w v l) : StrRow w v l := by
  obtain ⟨a, c, h1, h2, h3, h4⟩ := h
  refine ⟨a, c, h1, h2, h3, ?_⟩
  rcases h4 with h4 | ⟨b, cur, h6, hs, h7, h8⟩
  · exact .inl h4
  · exact .inr ⟨b, 0, h6, fun i x hx => by rw [Nat.zero_add]; exact cell_of h7 (h8 i x hx)⟩
def NS (S : Nat → Prop) (w : World) (base : Nat) (v : Value) (l : List (List ByteArray)) : Prop := ∃ us : List Value, us.length = l.length ∧ w.ownsRow base 22 1 v l.length us ∧ ∀ (i : Nat) (u : Value) (x : List ByteArray), us[i]? = some u → l[i]? = some x → StrS S w u x
theorem NS.str {S : Nat → Prop} {w : World} {base : Nat} {v : Value} {l : List (List ByteArray)} (h : NS S w base v l) : NStr w v l := by
  obtain ⟨us, h0, h1, h2⟩ := h
  rcases h1.2 with ⟨rfl, h3⟩ | ⟨g, cap, cur, rfl, hB, hg, hnc, hcm, hsz, htk⟩
  · exact ⟨none, 0, by rw [h3], by omega, by unfold maxLen; omega, .inl (List.length_eq_zero_iff.1 h3)⟩
  · refine ⟨_, cap, rfl, hnc, hcm, .inr ⟨g, 0, rfl, fun i x hx => ?_⟩⟩
    have hi : i < l.length := (List.getElem?_eq_some_iff.1 hx).1
    obtain ⟨u, hu⟩ : ∃ u, us[i]? = some u := ⟨_, List.getElem?_eq_getElem (by omega)⟩
    refine ⟨u, ?_, (h2 i u x hu hx).str⟩
    rw [Nat.zero_add]
    refine cell_of hg ?_
    have h1' : (cur.toList.take (l.length * 1))[i]? = us[i]? := by rw [htk]
    rw [List.getElem?_take_of_lt (by omega), Array.getElem?_toList, hu] at h1'
    exact h1'
theorem own_type {w : World} {B e size n : Nat} {v : Value} {xs : List Value} (h : w.ownsRow B e size v n xs) : ∀ b, v.ownBlock = some b → b < w.heap.size ∧ ∃ cur, w.heap[b]? = some (.cells cur e) := by
  intro b hb
  rcases h.2 with ⟨e1, _⟩ | ⟨g, cap, cur, e1, hB, hg, _⟩
  · rw [e1] at hb; cases hb
  · rw [e1] at hb
    have : g = b := by simpa [Value.ownBlock] using hb
    subst this
    exact ⟨lt_of hg, cur, hg⟩
theorem own_geq {w : World} {B e size n : Nat} {v : Value} {xs : List Value} (h : w.ownsRow B e size v n xs) : ∀ k, v.ownBlock = some k → B ≤ k := by
  intro k hk
  rcases h.2 with ⟨e1, _⟩ | ⟨g, cap, cur, e1, hB, _⟩
  · rw [e1] at hk; cases hk
  · rw [e1] at hk
    have : g = k := by simpa [Value.ownBlock] using hk
    omega
theorem own_on {w w' : World} {B e size n : Nat} {v : Value} {xs : List Value} (h : w.ownsRow B e size v n xs) (hb : ∀ b, v.ownBlock = some b → w'.heap[b]? = w.heap[b]?) : w'.ownsRow B e size v n xs := by
  refine ⟨h.1, ?_⟩
  rcases h.2 with h2 | ⟨y, cap, cur, e1, hB, hg, h3⟩
  · exact .inl h2
  · exact .inr ⟨y, cap, cur, e1, hB, (hb y (by rw [e1]; rfl)).trans hg, h3⟩
theorem NS.kept {S S' : Nat → Prop} {w w' : World} {base : Nat} {v : Value} {l : List (List ByteArray)} (h : NS S w base v l) (hv : ∀ b, v.ownBlock = some b → w'.heap[b]? = w.heap[b]?) (hb : ∀ b cur, b < w.heap.size → S b → w.heap[b]? = some (.cells cur 9) → w'.heap[b]? = w.heap[b]? ∧ S' b) : NS S' w' base v l := by
  obtain ⟨us, h0, h1, h2⟩ := h
  exact ⟨us, h0, own_on h1 hv, fun i u x hu hx => (h2 i u x hu hx).kept hb⟩
structure RInv (w0 wr : World) (vn vr vc : Value) (nm : List ByteArray) (ring chain : List (List ByteArray)) : Prop where
  bel : Below w0.heap.size w0 wr
  nam : wr.ownsRow w0.heap.size 9 1 vn nm.length (nm.map Value.string)
  rin : NS (fun b => some b ≠ vn.ownBlock) wr w0.heap.size vr ring
  chn : NS (fun b => some b ≠ vn.ownBlock) wr w0.heap.size vc chain
  ap : ∀ x, vr.ownBlock = some x → vc.ownBlock ≠ some x
variable {w0 wr wX w2 : World} {vn vr vc : Value} {nm : List ByteArray} {ring chain : List (List ByteArray)}
theorem NS.row {S : Nat → Prop} {base : Nat} {v : Value} {l : List (List ByteArray)} (h : NS S wr base v l) : ∀ b, v.ownBlock = some b → b < wr.heap.size ∧ ∃ cur, wr.heap[b]? = some (.cells cur 22) := by
  obtain ⟨us, h0, h1, h2⟩ := h
  exact own_type h1
theorem RInv.any (H : RInv w0 wr vn vr vc nm ring chain) (hb : Below wr.heap.size wr w2) : RInv w0 w2 vn vr vc nm ring chain :=
  ⟨H.bel.trans (hb.mono H.bel.size), own_below H.nam hb, H.rin.kept (fun b h => hb.block b (H.rin.row b h).1) (fun b _ hl hs _ => ⟨hb.block b hl, hs⟩), H.chn.kept (fun b h => hb.block b (H.chn.row b h).1) (fun b _ hl hs _ => ⟨hb.block b hl, hs⟩), H.ap⟩
/-- one name more -/
theorem RInv.name (H : RInv w0 wr vn vr vc nm ring chain) {gg cap : Nat} {s : ByteArray} (hX : Below wr.heap.size wr wX) (hown : w2.ownsRow w0.heap.size 9 1 (.slice (some ⟨gg, 0, none⟩) (nm.length + 1) cap) (nm.length + 1) (nm.map Value.string ++ [.string s])) (hg : wX.grownBy w2 vn.ownBlock) (hat : vn.ownBlock = some gg ∨ wr.heap.size ≤ gg) :
    RInv w0 w2 (.slice (some ⟨gg, 0, none⟩) (nm.length + 1) cap) vr vc (nm ++ [s]) ring chain := by
  have hbl : ∀ b, b < wr.heap.size → some b ≠ vn.ownBlock → w2.heap[b]? = wr.heap[b]? := fun b hb hne => (hg.block b (Nat.lt_of_lt_of_le hb hX.size) hne).trans (hX.block b hb)
  have hS : ∀ b, b < wr.heap.size → some b ≠ vn.ownBlock → some b ≠ (Value.slice (some ⟨gg, 0, none⟩) (nm.length + 1) cap).ownBlock := fun b hb hne e => by
    have : b = gg := by simpa [Value.ownBlock] using e
    subst this
    rcases hat with h | h
    · exact hne h.symm
    · omega
  have h22 : ∀ (v : Value) (l : List (List ByteArray)), NS (fun b => some b ≠ vn.ownBlock) wr w0.heap.size v l → ∀ b, v.ownBlock = some b → w2.heap[b]? = wr.heap[b]? := fun v l h b hb => by
    obtain ⟨h1, cur, h2⟩ := h.row b hb
    refine hbl b h1 (fun e => ?_)
    obtain ⟨_, cur2, h3⟩ := own_type H.nam b e.symm
    rw [h2] at h3
    simp at h3
  refine ⟨(H.bel.trans (hX.mono H.bel.size)).grown hg (by have := H.bel.size; have := hX.size; omega) (own_geq H.nam), ?_, H.rin.kept (h22 _ _ H.rin) (fun b _ hl hs _ => ⟨hbl b hl hs, hS b hl hs⟩), H.chn.kept (h22 _ _ H.chn) (fun b _ hl hs _ => ⟨hbl b hl hs, hS b hl hs⟩), H.ap⟩
  rw [List.length_append, List.length_singleton, List.map_append]
  exact hown
theorem ns_app {S : Nat → Prop} {u : Value} {us : List Value} {l : List (List ByteArray)} {x : List ByteArray} {gg cap base : Nat} (h0 : us.length = l.length) (h2 : ∀ (i : Nat) (u : Value) (x : List ByteArray), us[i]? = some u → l[i]? = some x → StrS S w2 u x) (hu : StrS S w2 u x) (hown : w2.ownsRow base 22 1 (.slice (some ⟨gg, 0, none⟩) (l.length + 1) cap) (l.length + 1) (us ++ [u])) : NS S w2 base (.slice (some ⟨gg, 0, none⟩) (l.length + 1) cap) (l ++ [x]) := by
  refine ⟨us ++ [u], by simp [h0], by rw [List.length_append, List.length_singleton]; exact hown, fun i u' x' hu' hx' => ?_⟩
  by_cases hi : i < l.length
  · rw [List.getElem?_append_left (by omega)] at hu' hx'
    exact h2 i u' x' hu' hx'
  · have hi2 : i = l.length := by
      have := (List.getElem?_eq_some_iff.1 hx').1
      simp at this
      omega
    subst hi2
    rw [List.getElem?_append_right (by omega), h0, Nat.sub_self] at hu'
    rw [List.getElem?_append_right (by omega), Nat.sub_self] at hx'
    simp at hu' hx'
    subst hu' hx'
    exact hu
/-- one row more in the ring -/
theorem RInv.ringA (H : RInv w0 wr vn vr vc nm ring chain) {gg cap : Nat} {us : List Value} {u : Value} {x : List ByteArray} (hX : Below wr.heap.size wr wX) (h0 : us.length = ring.length) (h2 : ∀ (i : Nat) (u : Value) (x : List ByteArray), us[i]? = some u → ring[i]? = some x → StrS (fun b => some b ≠ vn.ownBlock) wr u x) (hu : StrS (fun b => some b ≠ vn.ownBlock) wX u x)
    (hown : w2.ownsRow w0.heap.size 22 1 (.slice (some ⟨gg, 0, none⟩) (ring.length + 1) cap) (ring.length + 1) (us ++ [u])) (hg : wX.grownBy w2 vr.ownBlock) (hat : vr.ownBlock = some gg ∨ wr.heap.size ≤ gg) :
    RInv w0 w2 vn (.slice (some ⟨gg, 0, none⟩) (ring.length + 1) cap) vc nm (ring ++ [x]) chain := by
  have hbl : ∀ b, b < wX.heap.size → (∀ cur, wX.heap[b]? ≠ some (.cells cur 22)) → w2.heap[b]? = wX.heap[b]? := fun b hb hne => hg.block b hb (fun e => by
    obtain ⟨h1, cur, h2⟩ := H.rin.row b e.symm
    exact hne cur ((hX.block b h1).trans h2))
  have h9 : ∀ b cur, b < wX.heap.size → wX.heap[b]? = some (.cells cur 9) → w2.heap[b]? = wX.heap[b]? := fun b cur hb hc => hbl b hb (fun cur2 e => by rw [hc] at e; simp at e)
  have hX9 : ∀ b cur, b < wr.heap.size → wr.heap[b]? = some (.cells cur 9) → w2.heap[b]? = wr.heap[b]? := fun b cur hb hc => (h9 b cur (Nat.lt_of_lt_of_le hb hX.size) ((hX.block b hb).trans hc)).trans (hX.block b hb)
  refine ⟨(H.bel.trans (hX.mono H.bel.size)).grown hg (by have := H.bel.size; have := hX.size; omega) (by obtain ⟨_, _, h3, _⟩ := H.rin; exact own_geq h3), own_on H.nam (fun b hb => by obtain ⟨h3, cur, h4⟩ := own_type H.nam b hb; exact hX9 b cur h3 h4), ?_, H.chn.kept (fun b hb => ?_) (fun b cur hl hs hc => ⟨hX9 b cur hl hc, hs⟩), fun y hy hc => ?_⟩
  · exact ns_app h0 (fun i u x h3 h4 => (h2 i u x h3 h4).kept (fun b cur hl hs hc => ⟨hX9 b cur hl hc, hs⟩)) (hu.kept (fun b cur hl hs hc => ⟨h9 b cur hl hc, hs⟩)) hown
  · obtain ⟨h3, _⟩ := H.chn.row b hb
    refine (hg.block b (Nat.lt_of_lt_of_le h3 hX.size) (fun e => H.ap b e.symm hb)).trans (hX.block b h3)
  · have : gg = y := by simpa [Value.ownBlock] using hy
    subst this
    obtain ⟨h3, _⟩ := H.chn.row gg hc
    rcases hat with h | h
    · exact H.ap gg h hc
    · omega
/-- one row more in the chain -/
theorem RInv.chainA (H : RInv w0 wr vn vr vc nm ring chain) {gg cap : Nat} {us : List Value} {u : Value} {x : List ByteArray} (hX : Below wr.heap.size wr wX) (h0 : us.length = chain.length) (h2 : ∀ (i : Nat) (u : Value) (x : List ByteArray), us[i]? = some u → chain[i]? = some x → StrS (fun b => some b ≠ vn.ownBlock) wr u x) (hu : StrS (fun b => some b ≠ vn.ownBlock) wX u x)
    (hown : w2.ownsRow w0.heap.size 22 1 (.slice (some ⟨gg, 0, none⟩) (chain.length + 1) cap) (chain.length + 1) (us ++ [u])) (hg : wX.grownBy w2 vc.ownBlock) (hat : vc.ownBlock = some gg ∨ wr.heap.size ≤ gg) :
    RInv w0 w2 vn vr (.slice (some ⟨gg, 0, none⟩) (chain.length + 1) cap) nm ring (chain ++ [x]) := by
  have hap : ∀ x, vc.ownBlock = some x → vr.ownBlock ≠ some x := fun x h1 h2 => H.ap x h2 h1
  have := RInv.ringA (wX := wX) (w2 := w2) (gg := gg) (cap := cap) ⟨H.bel, H.nam, H.chn, H.rin, hap⟩ hX h0 h2 hu hown hg hat
  exact ⟨this.bel, this.nam, this.chn, this.rin, fun x h1 h2 => this.ap x h2 h1⟩
theorem RInv.new (H : RInv w0 wr vn vr vc nm ring chain) (s : ByteArray) : StrS (fun b => some b ≠ vn.ownBlock) (wr.alloc (.cells #[.string s] 9)) (.slice (some ⟨wr.heap.size, 0, none⟩) 1 1) [s] := by
  refine ⟨_, 1, rfl, Nat.le_refl _, by unfold maxLen; omega, .inr ⟨wr.heap.size, _, rfl, fun e => ?_, heap_alloc_new _ _, fun i x hx => ?_⟩⟩
  · have := (own_type H.nam _ e.symm).1
    omega
  · match i, hx with
    | 0, hx => cases hx; rfl
    | n + 1, hx => exact absurd hx (by simp)
theorem RInv.start (w0 : World) : RInv w0 w0 (.slice none 0 0) (.slice none 0 0) (.slice none 0 0) [] [] [] :=
  ⟨Below.refl _ _, ⟨rfl, .inl ⟨rfl, rfl⟩⟩, ⟨[], rfl, ⟨rfl, .inl ⟨rfl, rfl⟩⟩, fun i u x hu => by simp at hu⟩, ⟨[], rfl, ⟨rfl, .inl ⟨rfl, rfl⟩⟩, fun i u x hu => by simp at hu⟩, fun x hx => by simp [Value.ownBlock] at hx⟩
end Go.Proofs.Ytfhmfdmcdmcaiaa
