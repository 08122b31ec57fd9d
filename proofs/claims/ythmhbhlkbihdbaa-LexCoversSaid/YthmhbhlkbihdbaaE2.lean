/- The walk of LexCovers. -/
import Derived.Test.YthmhbhlkbihdbaaE1
namespace LexP
theorem nextL_kind (l : List UInt8) (t : Tk) (h : nextL l = some t) : (t.kind = 4 ∧ ∃ x, quoteGo [] (l.drop 1) = some x ∧ t.len = x.2 + 1) ∨ (t.kind ≠ 4 ∧ t.kind ≠ 0 ∧ t.text = l.take t.len) := by
  cases l with
  | nil => cases h
  | cons c r =>
    rw [nextL] at h
    split at h
    · split at h
      · simp only [Option.some.injEq] at h; subst h; exact .inr ⟨by simp, by simp, rfl⟩
      · split at h
        · simp only [Option.some.injEq] at h; subst h; exact .inr ⟨by simp, by simp, rfl⟩
        · cases h
    · split at h
      · rw [Option.map_eq_some_iff] at h
        obtain ⟨v, _, rfl⟩ := h
        exact .inr ⟨by simp, by simp, rfl⟩
      · split at h
        · rw [Option.map_eq_some_iff] at h
          obtain ⟨x, hx, rfl⟩ := h
          exact .inl ⟨rfl, x, hx, rfl⟩
        · split at h
          · cases h
          · simp only [Option.some.injEq] at h; subst h; exact .inr ⟨by simp, by simp, rfl⟩
end LexP
namespace Go.Proofs.Ythmhbhlkbihdbaa
open Go.RowKit LexP

/-- what the tokens from place p on are -/
def Cov (s : ByteArray) (p : Nat) (ts : List Tok) : Prop := ∃ f, s.size - p < f ∧ lexGo f p (s.data.toList.drop p) = .good ts

theorem Cov.step {s : ByteArray} {p : Nat} {t : Tok} {ts : List Tok} (h : Cov s p (t :: ts)) (hp : p ≤ s.size) :
    t.pos = bl false s p ∧
    ((bl false s p = s.size ∧ t.kind = 0 ∧ t.text = [] ∧ ts = []) ∨
     (bl false s p < s.size ∧ ∃ tk : Tk, nextL (s.data.toList.drop (bl false s p)) = some tk ∧ t.kind = tk.kind ∧ t.text = tk.text ∧ ts ≠ [] ∧ bl false s p + tk.len ≤ s.size ∧ Cov s (bl false s p + tk.len) ts)) := by
  obtain ⟨f, hf, h⟩ := h
  have hb := bl_le s p hp
  cases f with
  | zero => omega
  | succ f =>
    rw [lexGo_bl] at h
    by_cases hq : bl false s p < s.size
    · cases hn : nextL (s.data.toList.drop (bl false s p)) with
      | none => rw [lexNB_bad s f _ hq hn] at h; cases h
      | some tk =>
        have hl := nextL_len _ _ hn
        simp at hl
        rw [lexNB_some s f _ hq tk hn] at h
        cases hg : lexGo f (bl false s p + tk.len) (s.data.toList.drop (bl false s p + tk.len)) with
        | bad q => rw [hg] at h; cases h
        | good us =>
          rw [hg] at h
          simp only [LexR.put, LexR.good.injEq, List.cons.injEq] at h
          obtain ⟨rfl, rfl⟩ := h
          exact ⟨rfl, .inr ⟨hq, tk, rfl, rfl, rfl, lexGo_ne _ _ _ _ hg, by omega, f, by omega, hg⟩⟩
    · rw [lexNB_end s f _ (by omega)] at h
      simp only [LexR.good.injEq, List.cons.injEq] at h
      obtain ⟨rfl, rfl⟩ := h
      exact ⟨rfl, .inl ⟨by omega, rfl, rfl, rfl⟩⟩

theorem between_bl (s : ByteArray) (p : Nat) (hp : p ≤ s.size) : bl false (s.extract p (bl false s p)) 0 = (s.extract p (bl false s p)).size := by
  have hb := bl_le s p hp
  have h1 : (s.extract p (bl false s p)).data.toList = (s.data.toList.drop p).take (blankGo false (s.data.toList.drop p)) := by
    rw [Lib.extract_data]
    congr 1
    unfold bl; omega
  have h2 : (s.extract p (bl false s p)).size = blankGo false (s.data.toList.drop p) := by
    rw [← len_L, h1, List.length_take, Nat.min_eq_left (blankGo_len _ _)]
  rw [h2]
  show 0 + blankGo false ((s.extract p (bl false s p)).data.toList.drop 0) = _
  rw [List.drop_zero, h1, blank_take, Nat.zero_add]

/-- inside a string: what is left of it takes n bytes with its end -/
def InQ (s : ByteArray) (k n : Nat) : Prop := ∃ b x, quoteGo b (s.data.toList.drop k) = some x ∧ x.2 = n
theorem InQ.lt {s : ByteArray} {k n : Nat} (h : InQ s k n) : k < s.size := by
  obtain ⟨b, x, h, _⟩ := h
  rcases Nat.lt_or_ge k s.size with h1 | h1
  · exact h1
  · rw [q_end s k b h1] at h; cases h
theorem InQ.pos {s : ByteArray} {k n : Nat} (h : InQ s k n) : 1 ≤ n := by
  obtain ⟨b, x, h, hx⟩ := h
  have := quoteGo_len _ _ (Nat.le_refl _) _ _ h
  omega
theorem InQ.step {s : ByteArray} {k n : Nat} (h : InQ s k n) (hk : k < s.size) :
    (((s[k].toNat : Int) == 34) = true ∧ n = 1) ∨
    (((s[k].toNat : Int) == 34) = false ∧ ((s[k].toNat : Int) == 92) = true ∧ 2 ≤ n ∧ InQ s (k + 1 + 1) (n - 2)) ∨
    (((s[k].toNat : Int) == 34) = false ∧ ((s[k].toNat : Int) == 92) = false ∧ 1 ≤ n ∧ InQ s (k + 1) (n - 1)) := by
  obtain ⟨b, x, h, hx⟩ := h
  by_cases h1 : 100 < b.length
  · rw [q_long s k b hk h1] at h; cases h
  have h1 : b.length ≤ 100 := by omega
  cases e34 : ((s[k].toNat : Int) == 34)
  case true =>
    rw [q_quote s k b hk h1 e34] at h
    simp only [Option.some.injEq] at h
    subst h
    exact .inl ⟨rfl, hx.symm⟩
  right
  by_cases hb : (decide ((s[k].toNat : Int) < 32) || decide (126 < (s[k].toNat : Int))) = true
  · rw [q_bad s k b hk h1 e34 hb] at h; cases h
  have hb : (decide ((s[k].toNat : Int) < 32) || decide (126 < (s[k].toNat : Int))) = false := by simpa using hb
  cases e92 : ((s[k].toNat : Int) == 92)
  case false =>
    right
    rw [q_plain s k b hk h1 e34 hb e92, Option.map_eq_some_iff] at h
    obtain ⟨y, hy, rfl⟩ := h
    simp only at hx
    exact ⟨rfl, rfl, by omega, _, y, hy, by omega⟩
  left
  by_cases h2 : k + 1 < s.size
  · rw [q_esc s k b hk h1 e34 hb e92 h2] at h
    split at h
    · rw [Option.map_eq_some_iff] at h
      obtain ⟨y, hy, rfl⟩ := h
      simp only at hx
      exact ⟨rfl, rfl, by omega, _, y, hy, by omega⟩
    · split at h
      · rw [Option.map_eq_some_iff] at h
        obtain ⟨y, hy, rfl⟩ := h
        simp only at hx
        exact ⟨rfl, rfl, by omega, _, y, hy, by omega⟩
      · cases h
  · rw [q_esc_end s k b hk h1 e34 hb e92 (by omega)] at h; cases h

set_option maxRecDepth 100000 in
set_option maxHeartbeats 2000000 in
theorem LexCovers_any (s : ByteArray) (w : World) (hs : s.size ≤ maxLen) : Calls Try.prog 4 #[.string s] w fun e w' => e = .returned (.bool true) ∧ Below w.heap.size w w' := by
  unfold maxLen at hs
  go_enter Try.func4, Try.ntmps4
  go_wp2_with fail
  refine (Lex_any _ _).mono ?_
  intro e w1 hq
  obtain ⟨hb1, hq⟩ := hq
  have HB1 := Lib.hid hb1
  have hsz1 := hb1.size
  clear hb1
  by_cases hlong : 8192 < s.size
  · rw [lexTop, len_L, if_pos hlong] at hq
    obtain rfl := hq
    go_wp2_with (first | go_quiet (fail) | (go_at_call 12; refine (num_any _ _).mono ?_; rintro e w2 ⟨rfl, rfl⟩) | (go_at_call 13; refine (awake_any _).mono ?_; rintro e w2 ⟨rfl, hb⟩))
    go_ret
    exact ⟨rfl, HB1.out.trans (hb.mono hsz1)⟩
  rw [top_small _ (by rw [len_L]; omega)] at hq
  cases hE : lexL s.data.toList with
  | bad p =>
    rw [hE] at hq
    obtain rfl := hq
    have hpb := lexL_bad _ _ hE
    rw [len_L] at hpb
    clear hE
    go_wp2_with (first | go_quiet (fail) | (go_at_call 12; refine (num_any _ _).mono ?_; rintro e w2 ⟨rfl, rfl⟩) | (go_at_call 13; refine (awake_any _).mono ?_; rintro e w2 ⟨rfl, hb⟩))
    go_ret
    exact ⟨rfl, HB1.out.trans (hb.mono hsz1)⟩
  | good l =>
    rw [hE] at hq
    obtain ⟨v, rfl, hown⟩ := hq
    have hl := lexL_count _ _ hE
    rw [len_L] at hl
    have HCov := Lib.hid (show Cov s 0 l from ⟨s.size + 1, by omega, by have := hE; rw [lexL, len_L] at this; exact this⟩)
    obtain ⟨g, cap, hg, rfl, hc⟩ := TokRow.of_own hown (by omega)
    have hgl := own_block hown (by omega)
    have CA := Lib.hid (TokRow.mk rfl hc : TokRow w1 (.slice (some ⟨g, 0, none⟩) l.length cap) l g cap)
    clear hown hc hE
    go_wp2_with (go_at_call 12; refine (num_any _ _).mono ?_; rintro e w2 ⟨rfl, rfl⟩)
    go_loopw [6, 7] (fun en i wr => ∃ (k p : Nat), k ≤ l.length ∧ i = .int .i64 k ∧ en = .int .i64 p ∧ p ≤ s.size ∧ Below w1.heap.size w1 wr ∧ Hid ((k < l.length ∧ Cov s p (l.drop k)) ∨ (k = l.length ∧ p = s.size))) (fun _ i _ => l.length - (intOf i).toNat)
    case atStart => exact ⟨0, 0, by omega, rfl, rfl, by omega, Below.refl _ _, .inl ⟨by omega, HCov.out⟩⟩
    case round =>
      obtain ⟨k, p, hk, rfl, rfl, hp, hb, HK⟩ := hrel
      have hszr := hb.size
      have HB := Lib.hid hb
      by_cases hlt : k < l.length
      case neg =>
        have hps : p = s.size := by
          rcases HK.out with h | h
          · omega
          · exact h.2
        subst hps
        clear hb
        go_wp2_with (first | go_quiet (fail) | (go_at_call 13; refine (awake_any _).mono ?_; rintro e w2 ⟨rfl, hb⟩))
        go_ret
        have h1 := HB1.out.trans (HB.out.mono HB1.out.size)
        exact ⟨rfl, h1.trans (hb.mono h1.size)⟩
      have hga2 : g < wr.heap.size := by omega
      have hT := (CA.out.tok k hlt).later hb hgl
      have hcv : Cov s p (l[k] :: l.drop (k + 1)) := by
        rcases HK.out with h | h
        · rw [← List.drop_eq_getElem_cons hlt]; exact h.2
        · omega
      have hbb := bl_le s p hp
      obtain ⟨hpos, hst⟩ := hcv.step hp
      have hbt := between_bl s p hp
      generalize hta : l[k] = ta at *
      generalize hq : bl false s p = q at *
      obtain ⟨a0, a1, a2, a3⟩ := hT
      rw [hpos] at a3
      obtain ⟨hpq, hqs⟩ := hbb
      have HT := Lib.hid hbt
      clear hpos hb hta hcv hbt
      rcases hst with ⟨h1, h2, h3, h4⟩ | ⟨h1, tk, h2, h3, h4, h5, h6, h7⟩
      · have hkl : (k : Int) = (l.length : Int) - 1 := by
          have := congrArg List.length h4
          simp at this; omega
        have hkl' : ((k : Int) == (l.length : Int) - 1) = true := by simp [hkl]
        rw [h2] at a0
        rw [h3] at a1
        subst h1
        have hkl1 : l.length ≤ k + 1 := by omega
        clear hkl h2 h3 h4
        go_wp2_with (first | (go_at_call 14; refine (between_any _ _ (by simp; omega)).mono ?_; rintro e w2 ⟨rfl, rfl⟩; rw [HT.out]) | go_quiet (fail))
        exact ⟨⟨k + 1, s.size, by omega, by go_num, rfl, by omega, below_drewN (HB.out.alloc hszr _) _, .inr ⟨by omega, rfl⟩⟩, by simp [intOf]; omega⟩
      · have hkl : k + 1 < l.length := by
          rcases Nat.lt_or_ge (k + 1) l.length with h | h
          · exact h
          · exact absurd (List.drop_eq_nil_of_le h) h5
        have hkl' : ((k : Int) == (l.length : Int) - 1) = false := by simp; omega
        have H7 := Lib.hid h7
        rw [h3] at a0
        rw [h4] at a1
        have hfin : ∀ (wx : World) (E : Int), E = (q : Int) + (tk.len : Int) → Below w1.heap.size w1 wx → (∃ (k' p' : Nat), k' ≤ l.length ∧ Value.int .i64 ((k : Int) + 1) = .int .i64 k' ∧ Value.int .i64 E = .int .i64 p' ∧ p' ≤ s.size ∧ Below w1.heap.size w1 wx ∧ Hid ((k' < l.length ∧ Cov s p' (l.drop k')) ∨ (k' = l.length ∧ p' = s.size))) :=
          fun wx E hE hb => ⟨k + 1, q + tk.len, by omega, by go_num, by rw [hE]; go_num, h6, hb, .inl ⟨hkl, H7.out⟩⟩
        have HFIN := Lib.hid hfin
        clear hfin h3 h4 h5 h7
        rcases nextL_kind _ _ h2 with ⟨e4, x, hx, hxl⟩ | ⟨e4, e0, htx⟩
        · rw [e4] at a0
          have HQ0 := Lib.hid (show InQ s (q + 1) (q + tk.len - (q + 1)) from ⟨[], x, by rw [List.drop_drop] at hx; exact hx, by omega⟩)
          have hlen1 : 2 ≤ tk.len := by have := HQ0.out.lt; obtain ⟨_, y, hy, hyl⟩ := HQ0.out; have := quoteGo_len _ _ (Nat.le_refl _) _ _ hy; omega
          clear hx hxl e4 h2
          go_wp2_with (first | (go_at_call 14; refine (between_any _ _ (by simp; omega)).mono ?_; rintro e w2 ⟨rfl, rfl⟩; rw [HT.out]) | go_quiet (fail))
          obtain ⟨wo, hwo⟩ : ∃ wo : World, wo = wr := ⟨_, rfl⟩
          go_loop [6] (fun en => ∃ m : Nat, q + 1 ≤ m ∧ m < q + tk.len ∧ en = .int .i64 m ∧ Hid (InQ s m (q + tk.len - m))) (fun en => s.size - (intOf en).toNat)
          case atStart => exact ⟨q + 1, by omega, by omega, by go_num, HQ0.out⟩
          case round =>
            obtain ⟨m, hm1, hm2, rfl, HQ⟩ := hrel
            have hms := HQ.out.lt
            have hstep := HQ.out.step hms
            rcases hstep with ⟨f34, hn⟩ | ⟨f34, f92, hn, hq2⟩ | ⟨f34, f92, hn, hq2⟩
            · have f34' : ((s[m].toNat : Int) != 34) = false := by rw [bne, f34]; rfl
              have hm3 : (m : Int) + 1 ≤ (q : Int) + (tk.len : Int) := by omega
              have hm4 : (q : Int) + (tk.len : Int) ≤ (m : Int) + 1 := by omega
              clear hn
              go_wp2_with (go_quiet (fail))
              exact ⟨HFIN.out _ _ (by omega) (HB.out.alloc hszr _), by simp [intOf]; omega⟩
            · have f34' : ((s[m].toNat : Int) != 34) = true := by rw [bne, f34]; rfl
              have H2 := Lib.hid hq2
              have hlt2 := hq2.pos
              clear hq2
              go_wp2_with (go_quiet (fail))
              exact ⟨⟨m + 1 + 1, by omega, by omega, by go_num, by have := H2.out; rw [show q + tk.len - m - 2 = q + tk.len - (m + 1 + 1) by omega] at this; exact this⟩, by simp [intOf]; omega⟩
            · have f34' : ((s[m].toNat : Int) != 34) = true := by rw [bne, f34]; rfl
              have H2 := Lib.hid hq2
              have hlt2 := hq2.pos
              clear hq2
              go_wp2_with (go_quiet (fail))
              exact ⟨⟨m + 1, by omega, by omega, by go_num, by have := H2.out; rw [show q + tk.len - m - 1 = q + tk.len - (m + 1) by omega] at this; exact this⟩, by simp [intOf]; omega⟩
        · have htl : tk.text.length = tk.len := by rw [htx, List.length_take, List.length_drop, len_L, Nat.min_eq_left (by omega)]
          have hstr : (s.extract q (q + tk.len)).toList = tk.text := by rw [ByteArray.toList_eq, extract_mid, htx]
          have hsz3 : (tk.text.length : Int) ≤ (s.size : Int) - (q : Int) := by omega
          have hsz4 : (q : Int) + (tk.text.length : Int) ≤ (s.size : Int) := by omega
          have htl2 : q + tk.len = q + tk.text.length := by omega
          have hwr : IntKind.i64.wrap ((q : Int) + (tk.text.length : Int)) = (q : Int) + (tk.text.length : Int) := IntWalk.i64_in _ (by omega)
          have hws : IntKind.i64.wrap ((s.size : Int) - (q : Int)) = (s.size : Int) - (q : Int) := IntWalk.i64_in _ (by omega)
          have htn : ((q : Int) + (tk.text.length : Int)).toNat = q + tk.text.length := by omega
          rw [htl2] at hstr
          have e1 : (tk.kind == 4) = false := by simpa using e4
          have e2 : (tk.kind == 0) = false := by simpa using e0
          have e3 : (tk.kind != 0) = true := by simpa using e0
          have hd : decide ((s.size : Int) - (q : Int) < (tk.text.length : Int)) = false := by simp; omega
          have HTL := Lib.hid htl
          clear htl htl2 htx e4 e0 h2
          go_wp2_with (first | (go_at_call 14; refine (between_any _ _ (by simp; omega)).mono ?_; rintro e w2 ⟨rfl, rfl⟩; rw [HT.out]) | go_quiet (fail))
          exact ⟨HFIN.out _ _ (by rw [HTL.out]) (below_drewN (HB.out.alloc hszr _) _), by simp [intOf]; omega⟩
end Go.Proofs.Ythmhbhlkbihdbaa
