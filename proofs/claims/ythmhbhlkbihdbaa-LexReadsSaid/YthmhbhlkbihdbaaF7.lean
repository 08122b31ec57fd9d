/- The walks of the reference's Long, Lex and Same. -/
import Derived.Test.YthmhbhlkbihdbaaF6
namespace Go.Proofs.Ythmhbhlkbihdbaa
open Go.RowKit LexP

/-- what the reference's Long hands back -/
def LongPost (w : World) (r : LexR) (e : Ending) (w' : World) : Prop :=
  Below w.heap.size w w' ∧
  match r with
  | .bad p => e = .returned (.tuple #[.slice none 0 0, .int .i64 p, .int .i64 5])
  | .good l => ∃ v, e = .returned (.tuple #[v, .int .i64 0, .int .i64 0]) ∧ w'.ownsRow w.heap.size 31 4 v l.length (toksC l)

theorem heap_new2' (w : World) (o o' : Obj) : ((w.alloc o).alloc o').heap[w.heap.size + 1]? = some o' := by
  have := heap_alloc_new (w.alloc o) o'
  simpa using this

set_option maxRecDepth 100000 in
set_option maxHeartbeats 2000000 in
theorem Long_any (s : ByteArray) (w : World) (hsm : s.size ≤ 8192) : Calls Try.prog 23 #[.string s] w (LongPost w (lexL s.data.toList)) := by
  have HT := Lib.hid (show lexL s.data.toList = lexGo (s.size + 1) 0 (s.data.toList.drop 0) by rw [lexL, len_L]; rfl)
  obtain ⟨i0, hi0, hz0, hz1, hz2⟩ := info_parts Try.info31
  go_enter Try.func23, Try.ntmps23
  go_wp2_with fail
  refine (Blank_any s 0 _ (by omega) (by omega)).mono ?_
  rintro e w1 ⟨rfl, rfl⟩
  have hb0 := bl_le s 0 (by omega)
  have H0 := Lib.hid (lexGo_bl s s.size 0)
  generalize bl false s 0 = q0 at *
  go_wp2_with fail
  go_loopw [5, 6] (fun v i wr => ∃ (p f : Nat) (ts : List Tok), p ≤ s.size ∧ s.size ≤ p + f ∧ ts.length ≤ p ∧ i = .int .i64 p ∧ wr.ownsRow w.heap.size 31 4 v ts.length (toksC ts) ∧ Below w.heap.size w wr ∧
      Hid (lexGo (s.size + 1) 0 (s.data.toList.drop 0) = (lexNB f p (s.data.toList.drop p)).puts ts)) (fun _ i _ => s.size - (intOf i).toNat)
  case atStart => exact ⟨q0, s.size, [], by omega, by omega, by simp, rfl, World.ownsRow_nil _ _ _ _, Below.refl _ _, by show _ = _; rw [H0.out, puts_nil]⟩
  case round =>
    obtain ⟨p, f, ts, hp, hf, hts, rfl, hown, hb, H⟩ := hrel
    obtain ⟨ao, cap, rfl⟩ := own_shape hown
    have hsz := hb.size
    have HB := Lib.hid hb
    have HW := Lib.hid hown
    clear hown hb
    by_cases hlt : p < s.size
    · go_wp2_with fail
      refine (Next_any s p _ (by omega) hlt).mono ?_
      intro e w2 hq
      obtain ⟨hb2, hq⟩ := hq
      have hsz2 := hb2.size
      have HB2 := Lib.hid (HB.out.trans (hb2.mono hsz))
      have HW2 := Lib.hid (own_below HW.out hb2)
      clear hb2
      cases hN : nextL (s.data.toList.drop p) with
      | none =>
        rw [hN] at hq
        obtain ⟨t, k, rfl⟩ := hq
        have HE := Lib.hid (lexNB_bad s f p hlt hN)
        clear hN
        unfold tokV
        go_wp2_with fail
        go_ret3
        rw [HT.out, H.out, HE.out]
        exact ⟨HB2.out.alloc (by omega) _, rfl⟩
      | some t =>
        rw [hN] at hq
        obtain rfl := hq
        have hlen := nextL_len _ _ hN
        have HE := Lib.hid (lexNB_some s f p hlt t hN)
        have hp2 : p + t.len ≤ s.size := by have := hlen.2; simp at this; omega
        have hbl := bl_le s (p + t.len) hp2
        have hl1 := hlen.1
        clear hN hlen
        unfold tokV
        have HBL := Lib.hid (fun w => Blank_any s (p + t.len) w (by omega) hp2)
        have HG := Lib.hid (fun f => lexGo_bl s f (p + t.len))
        generalize hkk0 : p + t.len = kk at *
        have HKK := Lib.hid hkk0
        have hkk1 : p + 1 ≤ kk := by omega
        clear hkk0
        go_wp2_with (at_builtin; refine wpList_append_lies _ rfl (.tmp 26) (.tmp 28) 22 rfl w.heap.size 31 i0 _ 4 40 Try.underlying22 hi0 hz0 hz1 hz2 rfl (by decide) _ ts.length _ rfl ((HW2.out.alloc _).alloc _) ⟨w2.heap.size + 1, 0, none⟩ 1 1 [.int .i64 t.kind, .string ⟨t.text.toArray⟩, .int .i64 t.n, .int .i64 p] rfl rfl (World.news_of_block (cs := #[.int .i64 t.kind, .string ⟨t.text.toArray⟩, .int .i64 t.n, .int .i64 p]) (t := 31) (fr := (0, 0)) (heap_new2' w2 _ _)) (by simp [Value.oneCell']) (by omega) (by unfold maxLen; omega) (by omega) (by simp; omega) (w2.heap.size + 1 + 1) (by simp) ?_; intro gg cp w3 hown1 hgrow hat hlt1; have HG3 : Hid ((World.alloc (w2.alloc _) (.cells #[.int .i64 t.kind, .string ⟨t.text.toArray⟩, .int .i64 t.n, .int .i64 p] 31)).grownBy w3 (Value.slice ao ts.length cap).ownBlock) := hgrow; have HW3 := Lib.hid hown1; clear hown1 hgrow hat)
        refine (HBL.out _).mono ?_
        rintro e w4 ⟨rfl, rfl⟩
        go_wp2_with fail
        obtain ⟨f', rfl⟩ : ∃ f', f = f' + 1 := ⟨f - 1, by omega⟩
        refine ⟨⟨bl false s kk, f', ts ++ [⟨t.kind, t.text, t.n, p⟩], hbl.2, by omega, by simp; omega, rfl, ?_, ?_, ?_⟩, by simp [intOf]; omega⟩
        · have := HW3.out
          rw [toksC_snoc, List.length_append]
          exact this
        · exact ((HB2.out.alloc (by omega) _).alloc (by simp; omega) _).grown HG3.out (by simp; omega) (fun g hg => (HW.out.lt g hg).1)
        · show _ = _
          rw [H.out, HE.out, puts_put, HG.out]
    · have hpe : p = s.size := by omega
      have HE := Lib.hid (lexNB_end s f p (by omega))
      subst hpe
      go_wp2_with (at_builtin; refine wpList_append_lies _ rfl (.tmp 33) (.tmp 37) 22 rfl w.heap.size 31 i0 _ 4 40 Try.underlying22 hi0 hz0 hz1 hz2 rfl (by decide) _ ts.length _ rfl (HW.out.alloc _) ⟨wr.heap.size, 0, none⟩ 1 1 [.int .i64 0, .string ⟨#[]⟩, .int .i64 0, .int .i64 s.size] rfl rfl (World.news_of_block (cs := #[.int .i64 0, .string ⟨#[]⟩, .int .i64 0, .int .i64 s.size]) (t := 31) (fr := (0, 0)) (heap_alloc_new wr _)) (by simp [Value.oneCell']) (by omega) (by unfold maxLen; omega) (by omega) (by simp; omega) (wr.heap.size + 1) (by simp) ?_; intro gg cp w3 hown1 hgrow hat hlt1; have HG3 : Hid ((wr.alloc (.cells #[.int .i64 0, .string ⟨#[]⟩, .int .i64 0, .int .i64 s.size] 31)).grownBy w3 (Value.slice ao ts.length cap).ownBlock) := hgrow; have HW3 := Lib.hid hown1; clear hown1 hgrow hat)
      go_ret3
      rw [HT.out, H.out, HE.out]
      refine ⟨(HB.out.alloc (by omega) _).grown HG3.out (by simp; omega) (fun g hg => (HW.out.lt g hg).1), _, rfl, ?_⟩
      have := HW3.out
      show w3.ownsRow w.heap.size 31 4 _ (ts ++ [_]).length (toksC (ts ++ [_]))
      rw [toksC_snoc, List.length_append]
      exact this

set_option maxRecDepth 100000 in
theorem RLex_any (s : ByteArray) (w : World) : Calls Try.prog 10 #[.string s] w (LexPost w (lexTop s.data.toList)) := by
  by_cases hl : 8192 < s.size
  · have HT := Lib.hid (show lexTop s.data.toList = none by rw [lexTop, len_L, if_pos hl])
    go_enter Try.func10, Try.ntmps10
    go_wp2
    go_ret3
    rw [HT.out]
    exact ⟨Below.refl _ _, rfl⟩
  have HT := Lib.hid (top_small s.data.toList (by rw [len_L]; omega))
  go_enter Try.func10, Try.ntmps10
  go_wp2_with fail
  refine (Long_any s _ (by omega)).mono ?_
  intro e w1 hq
  obtain ⟨hb, hq⟩ := hq
  have HB := Lib.hid hb
  clear hb
  cases hE : lexL s.data.toList with
  | bad p =>
    rw [hE] at hq
    obtain rfl := hq
    have H2 := Lib.hid hE
    clear hE
    go_wp2_with fail
    go_ret3
    rw [HT.out, H2.out]
    exact ⟨HB.out, rfl⟩
  | good l =>
    rw [hE] at hq
    obtain ⟨v, rfl, hown⟩ := hq
    have H2 := Lib.hid hE
    have HO := Lib.hid hown
    clear hE hown
    go_wp2_with fail
    go_ret3
    rw [HT.out, H2.out]
    exact ⟨HB.out, v, rfl, HO.out⟩
end Go.Proofs.Ythmhbhlkbihdbaa
