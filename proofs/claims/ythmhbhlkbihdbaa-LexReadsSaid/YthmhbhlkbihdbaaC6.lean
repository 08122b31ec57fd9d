/- The walk of LexReads. -/
import Derived.Test.YthmhbhlkbihdbaaF7
import Derived.Test.YthmhbhlkbihdbaaF8
namespace Go.Proofs.Ythmhbhlkbihdbaa
open Go.RowKit LexP

/-- all blocks but g are as they were; block g is a row of n cells -/
def Spoilt (w wr : World) (g n : Nat) : Prop := w.grownBy wr (some g) ∧ ∃ cur, wr.heap[g]? = some (.cells cur 31 (0, 0)) ∧ cur.size = n
theorem Spoilt.refl {w : World} {g n : Nat} {cur : Array Value} (h : w.heap[g]? = some (.cells cur 31 (0, 0))) (hn : cur.size = n) : Spoilt w w g n :=
  ⟨⟨rfl, rfl, rfl, Nat.le_refl _, fun _ _ _ => rfl⟩, cur, h, hn⟩
theorem Spoilt.set {w wr : World} {g n : Nat} (h : Spoilt w wr g n) (o : Nat) (v : Value) : Spoilt w (wr.setCell ⟨g, o, none⟩ v) g n := by
  obtain ⟨hg, cur, hc, hn⟩ := h
  refine ⟨⟨hg.os, hg.tape, hg.output, by have := hg.size; simpa [World.setCell] using this, fun k hk hne => ?_⟩, cur.setIfInBounds o v, ?_, by simpa using hn⟩
  · rw [Below.heap_setCell _ _ _ _ (by simpa using hne)]
    exact hg.block k hk hne
  · simp [World.setCell, Array.getElem?_modify, hc]
theorem Spoilt.cell {w wr : World} {g n : Nat} (h : Spoilt w wr g n) (o : Nat) (ho : o < n) : ∃ v, wr.cell? ⟨g, o, none⟩ = some v := by
  obtain ⟨_, cur, hc, hn⟩ := h
  exact ⟨cur[o]'(by omega), by simp [World.cell?, hc, show o < cur.size by omega]⟩
theorem Spoilt.fr {w wr : World} {g n : Nat} (h : Spoilt w wr g n) (o : Nat) : wr.frozen? ⟨g, o, none⟩ = false := by
  obtain ⟨_, cur, hc, hn⟩ := h
  simp [World.frozen?, hc]
theorem Spoilt.lt {w wr : World} {g n : Nat} (h : Spoilt w wr g n) : g < wr.heap.size := by
  obtain ⟨_, cur, hc, _⟩ := h
  exact (Array.getElem?_eq_some_iff.1 hc).1

theorem own_cells {w : World} {B n cap g : Nat} {xs : List Value} (h : w.ownsRow B 31 4 (.slice (some ⟨g, 0, none⟩) n cap) n xs) (hn : 0 < n) : ∃ cur, w.heap[g]? = some (.cells cur 31 (0, 0)) ∧ n * 4 ≤ cur.size := by
  rcases h.2 with ⟨_, h0⟩ | ⟨g', cap', cur, hv, _, hg, hc, _, hs, _⟩
  · omega
  · simp at hv
    obtain ⟨rfl, rfl⟩ := hv
    exact ⟨cur, hg, by omega⟩

set_option maxRecDepth 100000 in
set_option maxHeartbeats 2000000 in
theorem LexReads_any (s : ByteArray) (w : World) (_hs : s.size ≤ maxLen) : Calls Try.prog 3 #[.string s] w fun e w' => e = .returned (.bool true) ∧ Below w.heap.size w w' := by
  go_enter Try.func3, Try.ntmps3
  go_wp2_with fail
  refine (Lex_any _ _).mono ?_
  intro e w1 hq
  obtain ⟨hb1, hq⟩ := hq
  have HB1 := Lib.hid hb1
  have hsz1 := hb1.size
  clear hb1
  by_cases hbad : ∃ p n : Nat, e = .returned (.tuple #[.slice none 0 0, .int .i64 p, .int .i64 n]) ∧ ∀ w w' e, LexPost w (lexTop s.data.toList) e w' → Below w.heap.size w w' ∧ e = .returned (.tuple #[.slice none 0 0, .int .i64 p, .int .i64 n])
  · obtain ⟨p, n, rfl, hall⟩ := hbad
    have HALL := Lib.hid hall
    clear hall hq
    go_wp2_with fail
    refine (RLex_any _ _).mono ?_
    intro e w2 hq
    obtain ⟨hb2, rfl⟩ := HALL.out _ _ _ hq
    have HB2 := Lib.hid (HB1.out.trans (hb2.mono hsz1))
    clear hq hb2
    go_wp2_with fail
    refine (Same_nil _).mono ?_
    rintro e w3 ⟨rfl, hb3⟩
    have HB3 := Lib.hid (HB2.out.trans (hb3.mono HB2.out.size))
    clear hb3
    go_wp2_with (go_at_call 12; refine (num_any _ _).mono ?_; rintro e w2 ⟨rfl, rfl⟩)
    refine wp_loop_rounds 1 ?_
    rw [rounds_succ]
    go_wp2_with fail
    refine (Lex_any _ _).mono ?_
    intro e w4 hq
    obtain ⟨hb4, rfl⟩ := HALL.out _ _ _ hq
    have HB4 := Lib.hid (HB3.out.trans (hb4.mono HB3.out.size))
    clear hq hb4
    go_wp2_with fail
    refine (Same_nil _).mono ?_
    rintro e w5 ⟨rfl, hb5⟩
    have HB5 := Lib.hid (HB4.out.trans (hb5.mono HB4.out.size))
    clear hb5
    go_wp2_with (go_at_call 13; refine (awake_any _).mono ?_; rintro e w2 ⟨rfl, hb⟩)
    go_ret
    exact ⟨rfl, HB5.out.trans (hb.mono HB5.out.size)⟩
  have hgood : ∃ l, 0 < l.length ∧ l.length ≤ 10000 ∧ lexTop s.data.toList = some (.good l) := by
    by_cases hlong : 8192 < s.size
    · refine absurd ⟨0, 2, ?_, fun w w' e h => ?_⟩ hbad
      · rw [lexTop, len_L, if_pos hlong] at hq; exact hq
      · rw [lexTop, len_L, if_pos hlong] at h; exact ⟨h.1, h.2⟩
    · rw [top_small _ (by rw [len_L]; omega)] at hq ⊢
      cases hE : lexL s.data.toList with
      | bad p =>
        rw [hE] at hq
        refine absurd ⟨p, 5, hq, fun w w' e h => ?_⟩ hbad
        rw [top_small _ (by rw [len_L]; omega), hE] at h
        exact ⟨h.1, h.2⟩
      | good l =>
        have := lexL_count _ _ hE
        rw [len_L] at this
        exact ⟨l, by omega, by omega, rfl⟩
  obtain ⟨l, hl0, hl1, hT⟩ := hgood
  clear hbad
  rw [hT] at hq
  have HT := Lib.hid hT
  clear hT
  obtain ⟨v, rfl, hown⟩ := hq
  obtain ⟨g, cap, hg, rfl, hc⟩ := TokRow.of_own hown hl0
  have hgl := own_block hown hl0
  obtain ⟨cur, hcur, hcn⟩ := own_cells hown hl0
  have CA := Lib.hid (TokRow.mk rfl hc : TokRow w1 (.slice (some ⟨g, 0, none⟩) l.length cap) l g cap)
  have HCUR := Lib.hid hcur
  clear hown hc hcur
  go_wp2_with fail
  refine (RLex_any _ _).mono ?_
  intro e w2 hq
  rw [HT.out] at hq
  obtain ⟨hb2, v, rfl, hown⟩ := hq
  have HB2 := Lib.hid (HB1.out.trans (hb2.mono hsz1))
  have hsz2 := hb2.size
  obtain ⟨g', cap', hg', rfl, hc⟩ := TokRow.of_own hown hl0
  have hgl' := own_block hown hl0
  have CB := Lib.hid (TokRow.mk rfl hc : TokRow w2 (.slice (some ⟨g', 0, none⟩) l.length cap') l g' cap')
  have CA2 := Lib.hid (CA.out.later hb2 hgl)
  have HCUR2 := Lib.hid ((hb2.block g hgl).trans HCUR.out)
  clear hown hc hb2
  go_wp2_with fail
  refine (Same_row l g cap g' cap' _ (by omega) CA2.out CB.out).mono ?_
  rintro e w3 ⟨rfl, hb3⟩
  have HB3 := Lib.hid (HB2.out.trans (hb3.mono HB2.out.size))
  have hsz3 := hb3.size
  have CB3 := Lib.hid (CB.out.later hb3 hgl')
  have HS := Lib.hid (Spoilt.refl ((hb3.block g (by omega)).trans HCUR2.out) rfl)
  clear hb3
  go_wp2_with (go_at_call 12; refine (num_any _ _).mono ?_; rintro e w2 ⟨rfl, rfl⟩)
  go_loopw [9] (fun i wr => ∃ k : Nat, k ≤ l.length ∧ i = .int .i64 k ∧ Spoilt w3 wr g cur.size) (fun i _ => l.length - (intOf i).toNat)
  case atStart => exact ⟨0, by omega, rfl, HS.out⟩
  case round =>
    obtain ⟨k, hk, rfl, hsp⟩ := hrel
    have HSP := Lib.hid hsp
    have hglr := hsp.lt
    by_cases hlt : k < l.length
    · obtain ⟨v0, c0⟩ := hsp.cell (k * 4) (by omega)
      obtain ⟨v1, c1⟩ := hsp.cell (k * 4 + 1) (by omega)
      obtain ⟨v2, c2⟩ := hsp.cell (k * 4 + 2) (by omega)
      obtain ⟨v3, c3⟩ := hsp.cell (k * 4 + 3) (by omega)
      have f0 := hsp.fr (k * 4)
      have f1 := hsp.fr (k * 4 + 1)
      have f2 := hsp.fr (k * 4 + 2)
      have f3 := hsp.fr (k * 4 + 3)
      clear hsp
      go_wp2_with fail
      exact ⟨⟨k + 1, by omega, by go_num, (((HSP.out.set _ _).set _ _).set _ _).set _ _⟩, by simp [intOf]; omega⟩
    · have hszr := hsp.1.size
      have CBr := Lib.hid (show TokRow wr (.slice (some ⟨g', 0, none⟩) l.length cap') l g' cap' from ⟨rfl, fun j u hu => (hsp.1.cell_far ⟨g', j, none⟩ (by show g' < w3.heap.size; omega) (by simp; omega)).trans (CB3.out.cell j u hu)⟩)
      have HBr := Lib.hid (HB3.out.grown hsp.1 (by omega) (fun k hk => by simp at hk; omega))
      clear hsp
      go_wp2_with fail
      refine (Lex_any _ _).mono ?_
      intro e w4 hq
      rw [HT.out] at hq
      obtain ⟨hb4, v, rfl, hown⟩ := hq
      have HB4 := Lib.hid (HBr.out.trans (hb4.mono HBr.out.size))
      obtain ⟨g4, cap4, hg4, rfl, hc⟩ := TokRow.of_own hown hl0
      have C4 := Lib.hid (TokRow.mk rfl hc : TokRow w4 (.slice (some ⟨g4, 0, none⟩) l.length cap4) l g4 cap4)
      have CB4 := Lib.hid (CBr.out.later hb4 (by omega))
      clear hown hc hb4
      go_wp2_with fail
      refine (Same_row l g4 cap4 g' cap' _ (by omega) C4.out CB4.out).mono ?_
      rintro e w5 ⟨rfl, hb5⟩
      have HB5 := Lib.hid (HB4.out.trans (hb5.mono HB4.out.size))
      clear hb5
      go_wp2_with (go_at_call 13; refine (awake_any _).mono ?_; rintro e w2 ⟨rfl, hb⟩)
      go_ret
      exact ⟨rfl, HB5.out.trans (hb.mono HB5.out.size)⟩
end Go.Proofs.Ythmhbhlkbihdbaa
