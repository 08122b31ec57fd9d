/- The walk of Lex. -/
import Derived.Test.YthmhbhlkbihdbaaA9
import Derived.Test.YthmhbhlkbihdbaaB0
namespace Go.Proofs.Ythmhbhlkbihdbaa
open Go.RowKit LexP

theorem own_mono {w : World} {B B' e sz : Nat} {v : Value} {n : Nat} {xs : List Value} (h : w.ownsRow B e sz v n xs) (hb : B' ≤ B) : w.ownsRow B' e sz v n xs := by
  obtain ⟨h1, h2⟩ := h
  refine ⟨h1, ?_⟩
  rcases h2 with h2 | ⟨g, cap, cur, h3, h4, h5⟩
  · exact .inl h2
  · exact .inr ⟨g, cap, cur, h3, by omega, h5⟩

/-- what Lex answers; none: the text is too long -/
def lexTop (l : List UInt8) : Option LexR := if 8192 < l.length then none else some (lexL l)
/-- what Lex hands back -/
def LexPost (w : World) (r : Option LexR) (e : Ending) (w' : World) : Prop :=
  Below w.heap.size w w' ∧
  match r with
  | none => e = .returned (.tuple #[.slice none 0 0, .int .i64 0, .int .i64 2])
  | some (.bad p) => e = .returned (.tuple #[.slice none 0 0, .int .i64 p, .int .i64 5])
  | some (.good l) => ∃ v, e = .returned (.tuple #[v, .int .i64 0, .int .i64 0]) ∧ w'.ownsRow w.heap.size 31 4 v l.length (toksC l)

theorem bl_le (s : ByteArray) (p : Nat) (h : p ≤ s.size) : p ≤ bl false s p ∧ bl false s p ≤ s.size := by
  unfold bl
  have := blankGo_len (s.data.toList.drop p) false
  simp at this
  omega
theorem lexGo_bl (s : ByteArray) (f p : Nat) : lexGo (f + 1) p (s.data.toList.drop p) = lexNB f (bl false s p) (s.data.toList.drop (bl false s p)) := by
  rw [lexGo_NB, List.drop_drop]; rfl
theorem lexNB_end (s : ByteArray) (f p : Nat) (h : s.size ≤ p) : lexNB f p (s.data.toList.drop p) = .good [⟨0, [], 0, p⟩] := by
  rw [drop_end s p h]; rfl
theorem lexNB_bad (s : ByteArray) (f p : Nat) (h : p < s.size) (hn : nextL (s.data.toList.drop p) = none) : lexNB f p (s.data.toList.drop p) = .bad p := by
  rw [drop_at s p h] at hn ⊢
  rw [lexNB, hn]
theorem lexNB_some (s : ByteArray) (f p : Nat) (h : p < s.size) (t : Tk) (hn : nextL (s.data.toList.drop p) = some t) :
    lexNB f p (s.data.toList.drop p) = (lexGo f (p + t.len) (s.data.toList.drop (p + t.len))).put ⟨t.kind, t.text, t.n, p⟩ := by
  rw [← List.drop_drop]
  rw [drop_at s p h] at hn ⊢
  rw [lexNB, hn]

set_option maxRecDepth 100000 in
set_option maxHeartbeats 1000000 in
theorem Lex_any (s : ByteArray) (w : World) : Calls Try.prog 9 #[.string s] w (LexPost w (lexTop s.data.toList)) := by
  by_cases hl : 8192 < s.size
  · have HT := Lib.hid (show lexTop s.data.toList = none by rw [lexTop, len_L, if_pos hl])
    go_enter Try.func9, Try.ntmps9
    go_wp2
    go_ret3
    rw [HT.out]
    exact ⟨Below.refl _ _, rfl⟩
  have HT := Lib.hid (show lexTop s.data.toList = some (lexGo (s.size + 1) 0 (s.data.toList.drop 0)) by rw [lexTop, len_L, if_neg hl, lexL, len_L]; rfl)
  have hs : s.size ≤ maxLen := by unfold maxLen; omega
  have hsm : s.size ≤ 100000 := by omega
  go_enter Try.func9, Try.ntmps9
  go_wp2_with fail
  have hrd : Rd (w.alloc (.cells #[.string s, .int .i64 0, .slice none 0 0] 41)) w.heap.size s 0 (.slice none 0 0) := heap_alloc_new w _
  refine (blanks_any w.heap.size s 0 (.slice none 0 0) 0 [] _ hs (by omega) hrd (World.ownsRow_nil _ _ _ _)).mono ?_
  rintro e w1 ⟨rfl, hw1⟩
  have HW1 := Lib.hid (hw1.trans ((Below.refl w.heap.size w).alloc (Nat.le_refl _) _))
  clear hw1 hrd
  go_wp2_with fail
  go_loopw [24] (fun _ wr => ∃ (p f : Nat) (ts : List Tok), p ≤ s.size ∧ s.size ≤ p + f ∧ ts.length ≤ p ∧ Rds w.heap.size w w.heap.size s p ts.length (toksC ts) wr ∧
      Hid (lexGo (s.size + 1) 0 (s.data.toList.drop 0) = (lexNB f p (s.data.toList.drop p)).puts ts)) (fun _ wr => s.size - posOf wr w.heap.size)
  case atStart =>
    have hb := bl_le s 0 (by omega)
    exact ⟨bl false s 0, s.size, [], hb.2, by omega, by simp, HW1.out, by show _ = _; rw [lexGo_bl, puts_nil]⟩
  case round =>
    obtain ⟨p, f, ts, hp, hf, hts, hr, H⟩ := hrel
    have HR := Lib.hid hr
    have HM := Lib.hid hr.pos
    obtain ⟨tv, hr1, hr2, hr3⟩ := hr
    have c1 := hr1.c1
    have c2 := hr1.c2
    have HA := Lib.hid hr1
    have HO := Lib.hid hr2
    have HB := Lib.hid hr3
    clear hr1 hr2 hr3
    by_cases hlt : p < s.size
    · go_wp2_with fail
      refine (one_any w.heap.size s p tv ts.length (toksC ts) _ hsm hlt (by omega) HA.out HO.out).mono ?_
      intro e w2 hq
      cases hN : nextL (s.data.toList.drop p) with
      | none =>
        rw [hN] at hq
        obtain ⟨rfl, hw2⟩ := hq
        have HW2 := Lib.hid (hw2.trans HB.out)
        obtain ⟨tv2, hr1, _, hb2⟩ := hw2
        have d1 := hr1.c1
        have HB2 := Lib.hid (HB.out.trans hb2)
        have HE := Lib.hid (lexNB_bad s f p hlt hN)
        clear hr1 hb2 hN c1 c2
        go_wp2_with (go_quiet (fail))
        go_ret3
        rw [HT.out, H.out, HE.out]
        exact ⟨below_drewN HB2.out _, rfl⟩
      | some t =>
        rw [hN] at hq
        obtain ⟨rfl, hw2⟩ := hq
        have hlen := nextL_len _ _ hN
        have HW2 := Lib.hid (hw2.trans HB.out)
        obtain ⟨tv2, hr1, hr2, hb2⟩ := hw2
        have HE := Lib.hid (lexNB_some s f p hlt t hN)
        have hp2 : p + t.len ≤ s.size := by have := hlen.2; simp at this; omega
        have hb := bl_le s (p + t.len) hp2
        have HA2 := Lib.hid hr1
        have HO2 := Lib.hid hr2
        have HB2 := Lib.hid (HB.out.trans hb2)
        clear hr1 hr2 hb2 hN c1 c2
        go_wp2_with fail
        refine (blanks_any w.heap.size s (p + t.len) tv2 _ _ _ hs hp2 HA2.out HO2.out).mono ?_
        rintro e w3 ⟨rfl, hw3⟩
        have HW3 := Lib.hid (hw3.trans HB2.out)
        clear hw3
        go_wp2_with fail
        obtain ⟨f', rfl⟩ : ∃ f', f = f' + 1 := ⟨f - 1, by omega⟩
        refine ⟨⟨bl false s (p + t.len), f', ts ++ [⟨t.kind, t.text, t.n, p⟩], hb.2, by omega, by simp; omega, ?_, ?_⟩, ?_⟩
        · have := HW3.out
          rw [toksC_snoc, List.length_append]
          exact this
        · show _ = _
          rw [H.out, HE.out, puts_put, lexGo_bl]
        · rw [HM.out]
          refine Nat.lt_of_le_of_lt (Nat.le_of_eq (congrArg _ HW3.out.pos)) ?_
          omega
    · have hpe : p = s.size := by omega
      have HE := Lib.hid (lexNB_end s f p (by omega))
      clear c2
      go_wp2_with fail
      refine (put_int w.heap.size s p tv ts.length (toksC ts) _ _ _ _ _ (by omega) (by unfold maxLen; simp; omega) (by omega) HA.out HO.out).mono ?_
      rintro e w2 ⟨rfl, hw2⟩
      obtain ⟨tv2, hr1, hr2, hb2⟩ := hw2
      have d2 := hr1.c2
      have HO2 := Lib.hid hr2
      have HB2 := Lib.hid (HB.out.trans hb2)
      clear hr1 hr2 hb2 c1
      go_wp2_with (go_quiet (fail))
      go_ret3
      rw [HT.out, H.out, HE.out]
      refine ⟨HB2.out, tv2, rfl, ?_⟩
      have := own_mono HO2.out (Nat.le_succ _)
      show w2.ownsRow w.heap.size 31 4 tv2 (ts ++ [_]).length (toksC (ts ++ [_]))
      rw [toksC_snoc, List.length_append]
      exact this
end Go.Proofs.Ythmhbhlkbihdbaa
