/- Unlike instructions have unlike words and unlike texts: in plain words. -/
import Derived.Test.YtpgooplokmemnaaDoorB4
namespace Go.Proofs.YtpgooplokmemnaaDoor
open Go Go.RowKit Go.Sort IsaP
set_option maxHeartbeats 4000000
set_option maxRecDepth 100000

theorem enc_inj (o a b c i o' a' b' c' i' : Int) (h : encB (rg o) (im o) (ok o) a b c i = true) (h' : encB (rg o') (im o') (ok o') a' b' c' i' = true) (e : encW o a b c i = encW o' a' b' c' i') : o = o' ∧ a = a' ∧ b = b' ∧ c = c' ∧ i = i' := by
  obtain ⟨e0, e1, e2, e3, e4⟩ := dec_enc o a b c i h
  obtain ⟨f0, f1, f2, f3, f4⟩ := dec_enc o' a' b' c' i' h'
  rw [e] at e0 e1 e2 e3 e4
  exact ⟨e0.symm.trans f0, e1.symm.trans f1, e2.symm.trans f2, e3.symm.trans f3, e4.symm.trans f4⟩
theorem cut_at (k : UInt8) : ∀ (x y A B : List UInt8), k ∉ x → k ∉ y → x ++ (k :: A) = y ++ (k :: B) → x = y ∧ A = B
  | [], [], A, B, _, _, h => by simp at h; exact ⟨rfl, h⟩
  | [], y :: ys, A, B, _, hy, h => by simp at h; exact absurd h.1 (fun e => hy (by simp [e]))
  | x :: xs, [], A, B, hx, _, h => by simp at h; exact absurd h.1 (fun e => hx (by simp [e]))
  | x :: xs, y :: ys, A, B, hx, hy, h => by
    simp only [List.cons_append, List.cons.injEq] at h
    obtain ⟨rfl, h⟩ := h
    obtain ⟨rfl, e⟩ := cut_at k xs ys A B (fun m => hx (List.mem_cons_of_mem _ m)) (fun m => hy (List.mem_cons_of_mem _ m)) h
    exact ⟨rfl, e⟩
theorem join_inj (k : UInt8) : ∀ (l l' : List (List UInt8)), l ≠ [] → l' ≠ [] → (∀ x ∈ l, k ∉ x) → (∀ x ∈ l', k ∉ x) → Lib.join l [k] = Lib.join l' [k] → l = l'
  | [], _, h, _, _, _, _ => absurd rfl h
  | _, [], _, h, _, _, _ => absurd rfl h
  | [x], [y], _, _, _, _, e => by rw [join_one, join_one] at e; rw [e]
  | [x], y :: y' :: l, _, _, hx, _, e => by
    rw [join_one, join_more] at e
    exact absurd (show k ∈ x by rw [e]; simp) (hx x (List.mem_cons_self ..))
  | x :: x' :: l, [y], _, _, _, hy, e => by
    rw [join_one, join_more] at e
    exact absurd (show k ∈ y by rw [← e]; simp) (hy y (List.mem_cons_self ..))
  | x :: x' :: l, y :: y' :: l', _, _, hx, hy, e => by
    rw [join_more, join_more] at e
    obtain ⟨e1, e2⟩ := cut_at k x y _ _ (hx x (List.mem_cons_self ..)) (hy y (List.mem_cons_self ..)) e
    rw [e1, join_inj k (x' :: l) (y' :: l') (by simp) (by simp) (fun z hz => hx z (List.mem_cons_of_mem _ hz)) (fun z hz => hy z (List.mem_cons_of_mem _ hz)) e2]

theorem dg_toNat (m : Nat) : (48 + UInt8.ofNat (m % 10)).toNat = 48 + m % 10 := by
  rw [UInt8.toNat_add, UInt8.toNat_ofNat']
  have : (48 : UInt8).toNat = 48 := rfl
  omega
theorem dd0_zero : dd0 0 = [] := rfl
theorem dd0_inj (m : Nat) : ∀ n, dd0 m = dd0 n → m = n := by
  induction m using Nat.strongRecOn with
  | ind m ih =>
    intro n e
    by_cases hm : m = 0
    · by_cases hn : n = 0
      · omega
      · subst hm
        rw [dd0_zero, dd_step n hn] at e
        simp at e
    · by_cases hn : n = 0
      · subst hn
        rw [dd0_zero, dd_step m hm] at e
        simp at e
      · rw [dd_step m hm, dd_step n hn] at e
        obtain ⟨e1, e2⟩ := List.append_inj' e rfl
        have h1 := ih (m / 10) (by omega) (n / 10) e1
        have h2 : (48 + UInt8.ofNat (m % 10)).toNat = (48 + UInt8.ofNat (n % 10)).toNat := congrArg UInt8.toNat (List.cons.inj e2).1
        rw [dg_toNat, dg_toNat] at h2
        omega
theorem dd0_all (m : Nat) : ∀ c ∈ dd0 m, 48 ≤ c.toNat ∧ c.toNat ≤ 57 := by
  induction m using Nat.strongRecOn with
  | ind m ih =>
    intro c hc
    by_cases hm : m = 0
    · subst hm; rw [dd0_zero] at hc; simp at hc
    · rw [dd_step m hm, List.mem_append] at hc
      rcases hc with hc | hc
      · exact ih (m / 10) (by omega) c hc
      · rw [List.mem_singleton.1 hc, dg_toNat]; omega
theorem dec_dd (n : Nat) : Lib.decDigits n = if n = 0 then [48] else dd0 n := by
  split
  · next h => subst h; rw [Lib.decDigits_one (by omega)]; rfl
  · next h => rw [dd0, if_neg h]
theorem decDigits_inj (m n : Nat) (e : Lib.decDigits m = Lib.decDigits n) : m = n := by
  have key : ∀ n : Nat, n ≠ 0 → dd0 n ≠ [48] := by
    intro n hn e
    rw [dd_step n hn] at e
    obtain ⟨e1, e2⟩ := List.append_inj' (s₁ := dd0 (n / 10)) (t₁ := [48 + UInt8.ofNat (n % 10)]) (s₂ := []) (t₂ := [48]) e rfl
    have h1 := dd0_inj (n / 10) 0 (e1.trans dd0_zero.symm)
    have h2 : (48 + UInt8.ofNat (n % 10)).toNat = (48 : UInt8).toNat := congrArg UInt8.toNat (List.cons.inj e2).1
    rw [dg_toNat] at h2
    have : (48 : UInt8).toNat = 48 := rfl
    omega
  rw [dec_dd, dec_dd] at e
  split at e <;> split at e
  · omega
  · next h => exact absurd e.symm (key n h)
  · next h _ => exact absurd e (key m h)
  · exact dd0_inj m n e
theorem decDigits_all (n : Nat) : ∀ c ∈ Lib.decDigits n, 48 ≤ c.toNat ∧ c.toNat ≤ 57 := by
  rw [dec_dd]
  split
  · intro c hc; rw [List.mem_singleton.1 hc]; decide
  · exact dd0_all n
theorem itoa_inj (m n : Int) (e : Lib.itoa m = Lib.itoa n) : m = n := by
  unfold Lib.itoa at e
  split at e <;> split at e
  · have := decDigits_inj _ _ (List.cons.inj e).2
    omega
  · exact absurd (decDigits_all n.toNat 45 (by rw [← e]; simp)).1 (by decide)
  · exact absurd (decDigits_all m.toNat 45 (by rw [e]; simp)).1 (by decide)
  · have := decDigits_inj _ _ e
    omega
theorem itoa_no32 (n : Int) : (32 : UInt8) ∉ Lib.itoa n := by
  intro h
  unfold Lib.itoa at h
  split at h
  · rcases List.mem_cons.1 h with h | h
    · exact absurd h (by decide)
    · exact absurd (decDigits_all _ _ h).1 (by decide)
  · exact absurd (decDigits_all _ _ h).1 (by decide)
theorem regT_inj (m n : Int) (e : regT m = regT n) : m = n := itoa_inj m n (List.cons.inj e).2
theorem nm_no32 (op : Int) (h : ok op = true) : (32 : UInt8) ∉ nm op := by
  obtain rfl | rfl | rfl | rfl | rfl | rfl | rfl | rfl | rfl | rfl | rfl | rfl | rfl | rfl | rfl | rfl | rfl | rfl | rfl | rfl | rfl | rfl | rfl | rfl | rfl | rfl | rfl | rfl | rfl | rfl | rfl | rfl | rfl | rfl | rfl := ok_cases op h <;> decide
theorem nm_back (op : Int) (h : ok op = true) : ((names.findIdx (· == nm op) : Nat) : Int) = op := by
  obtain rfl | rfl | rfl | rfl | rfl | rfl | rfl | rfl | rfl | rfl | rfl | rfl | rfl | rfl | rfl | rfl | rfl | rfl | rfl | rfl | rfl | rfl | rfl | rfl | rfl | rfl | rfl | rfl | rfl | rfl | rfl | rfl | rfl | rfl | rfl := ok_cases op h <;> decide
theorem parts_no32 (op a b c i : Int) (r : Int) (m : Bool) (h : ok op = true) : ∀ x ∈ parts (nm op) r m a b c i, (32 : UInt8) ∉ x := by
  have hr : ∀ (b : Bool) (r : Int), ∀ x ∈ regP b r, (32 : UInt8) ∉ x := by
    intro b r x hx
    unfold regP at hx
    split at hx
    · rw [List.mem_singleton.1 hx, regT]
      intro h
      rcases List.mem_cons.1 h with h | h
      · exact absurd h (by decide)
      · exact itoa_no32 r h
    · simp at hx
  intro x hx
  unfold parts at hx
  simp only [List.mem_cons, List.mem_append] at hx
  rcases hx with rfl | ((hx | hx) | hx) | hx
  · exact nm_no32 op h
  · exact hr _ _ x hx
  · exact hr _ _ x hx
  · exact hr _ _ x hx
  · cases m
    · simp at hx
    · simp at hx; rw [hx]; exact itoa_no32 i
theorem txt_inj (o a b c i o' a' b' c' i' : Int) (h : encB (rg o) (im o) (ok o) a b c i = true) (h' : encB (rg o') (im o') (ok o') a' b' c' i' = true) (e : txt o a b c i = txt o' a' b' c' i') : o = o' ∧ a = a' ∧ b = b' ∧ c = c' ∧ i = i' := by
  obtain ⟨_, _, _, _, _, hk, hm, ma, mb, mc⟩ := enc_bounds o a b c i h
  obtain ⟨_, _, _, _, _, hk', hm', ma', mb', mc'⟩ := enc_bounds o' a' b' c' i' h'
  rw [txt, txt, if_pos h, if_pos h'] at e
  have e := join_inj 32 _ _ (by simp [parts]) (by simp [parts]) (parts_no32 o a b c i _ _ hk) (parts_no32 o' a' b' c' i' _ _ hk') e
  unfold parts at e
  rw [List.cons.injEq] at e
  obtain ⟨e0, e⟩ := e
  have eo : o = o' := by rw [← nm_back o hk, ← nm_back o' hk', e0]
  subst eo
  clear h h' e0
  generalize hasB (rg o) 1 = x1 at *
  generalize hasB (rg o) 2 = x2 at *
  generalize hasB (rg o) 4 = x4 at *
  generalize im o = m at *
  refine ⟨rfl, ?_⟩
  have z : ∀ r : Int, mayB r false = true → r = 0 := by intro r h; simpa [mayB] using h
  cases x1 <;> cases x2 <;> cases x4 <;> cases m
  all_goals (simp only [regP, Bool.false_eq_true, if_true, if_false, List.nil_append, List.append_nil, List.cons_append, List.cons.injEq, and_true, Bool.false_or, beq_iff_eq] at e hm hm')
  all_goals
    refine ⟨?_, ?_, ?_, ?_⟩
    all_goals first | (rw [z _ ma, z _ ma']; done) | (rw [z _ mb, z _ mb']; done) | (rw [z _ mc, z _ mc']; done) | (rw [hm, hm']; done) | exact regT_inj _ _ e | exact regT_inj _ _ e.1 | exact regT_inj _ _ e.2 | exact regT_inj _ _ e.2.1 | exact regT_inj _ _ e.2.2 | exact regT_inj _ _ e.2.2.1 | exact itoa_inj _ _ e | exact itoa_inj _ _ e.2 | exact itoa_inj _ _ e.2.2 | exact itoa_inj _ _ e.2.2.2
end Go.Proofs.YtpgooplokmemnaaDoor
