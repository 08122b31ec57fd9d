/- The walk of LexJoins. -/
import Derived.Test.YthmhbhlkbihdbaaD1
import Derived.Test.YthmhbhlkbihdbaaD3
namespace Go.Proofs.Ythmhbhlkbihdbaa
open Go.RowKit LexP

theorem toksC_get (l : List Tok) : ∀ (k : Nat) (h : k < l.length), (toksC l)[k * 4]? = some (.int .i64 l[k].kind) ∧ (toksC l)[k * 4 + 1]? = some (.string ⟨l[k].text.toArray⟩) ∧
    (toksC l)[k * 4 + 2]? = some (.int .i64 l[k].n) ∧ (toksC l)[k * 4 + 3]? = some (.int .i64 l[k].pos) := by
  induction l with
  | nil => intro k h; simp at h
  | cons t r ih =>
    intro k h
    have e : toksC (t :: r) = .int .i64 t.kind :: .string ⟨t.text.toArray⟩ :: .int .i64 t.n :: .int .i64 t.pos :: toksC r := by simp [toksC, tokC]
    rw [e]
    cases k with
    | zero => simp
    | succ k =>
      have := ih k (by simpa using h)
      rw [show (k + 1) * 4 = k * 4 + 1 + 1 + 1 + 1 by omega]
      simp only [List.getElem?_cons_succ, List.getElem_cons_succ]
      exact this

/-- token k of a slice lies in four cells -/
def TokAt (w : World) (g k : Nat) (t : Tok) : Prop :=
  w.cell? ⟨g, k * 4, none⟩ = some (.int .i64 t.kind) ∧ w.cell? ⟨g, k * 4 + 1, none⟩ = some (.string ⟨t.text.toArray⟩) ∧
    w.cell? ⟨g, k * 4 + 2, none⟩ = some (.int .i64 t.n) ∧ w.cell? ⟨g, k * 4 + 3, none⟩ = some (.int .i64 t.pos)
theorem TokRow.tok {w : World} {v : Value} {l : List Tok} {g cap : Nat} (h : TokRow w v l g cap) (k : Nat) (hk : k < l.length) : TokAt w g k l[k] := by
  obtain ⟨h0, h1, h2, h3⟩ := toksC_get l k hk
  exact ⟨h.cell _ _ h0, h.cell _ _ h1, h.cell _ _ h2, h.cell _ _ h3⟩
theorem TokAt.later {B : Nat} {w w' : World} {g k : Nat} {t : Tok} (h : TokAt w g k t) (hb : Below B w w') (hg : g < B) : TokAt w' g k t :=
  ⟨(hb.cell (p := ⟨g, _, none⟩) hg).trans h.1, (hb.cell (p := ⟨g, _, none⟩) hg).trans h.2.1, (hb.cell (p := ⟨g, _, none⟩) hg).trans h.2.2.1, (hb.cell (p := ⟨g, _, none⟩) hg).trans h.2.2.2⟩
theorem TokRow.later {B : Nat} {w w' : World} {v : Value} {l : List Tok} {g cap : Nat} (h : TokRow w v l g cap) (hb : Below B w w') (hg : g < B) : TokRow w' v l g cap :=
  ⟨h.val, fun j u hu => (hb.cell (p := ⟨g, _, none⟩) hg).trans (h.cell j u hu)⟩
theorem own_block {w : World} {B e sz n cap g : Nat} {xs : List Value} (h : w.ownsRow B e sz (.slice (some ⟨g, 0, none⟩) n cap) n xs) (hn : 0 < n) : g < w.heap.size := by
  obtain ⟨g', cap', hv, _, hlt⟩ := h.form hn
  simp at hv
  rw [hv.1]; exact hlt

theorem join_L (s t : ByteArray) : ((s ++ (ByteArray.mk #[10])) ++ t).data.toList = s.data.toList ++ 10 :: t.data.toList := by
  simp

theorem top_small (l : List UInt8) (h : l.length ≤ 8192) : lexTop l = some (lexL l) := by rw [lexTop, if_neg (by omega)]

set_option maxRecDepth 100000 in
set_option maxHeartbeats 2000000 in
theorem LexJoins_any (s t : ByteArray) (w : World) (hs : s.size ≤ maxLen) (ht : t.size ≤ maxLen) : Calls Try.prog 5 #[.string s, .string t] w fun e w' => e = .returned (.bool true) ∧ Below w.heap.size w w' := by
  unfold maxLen at hs ht
  by_cases hl1 : 4000 < s.size
  · go_enter Try.func5, Try.ntmps5
    go_wp2_with (go_at_call 13; refine (awake_any _).mono ?_; rintro e w2 ⟨rfl, hb⟩)
    go_ret
    exact ⟨rfl, hb⟩
  by_cases hl2 : 4000 < t.size
  · go_enter Try.func5, Try.ntmps5
    go_wp2_with (go_at_call 13; refine (awake_any _).mono ?_; rintro e w2 ⟨rfl, hb⟩)
    go_ret
    exact ⟨rfl, hb⟩
  clear hs ht
  have HJ := Lib.hid (lexL_join s.data.toList t.data.toList)
  have T1 := Lib.hid (top_small s.data.toList (by rw [len_L]; omega))
  have T2 := Lib.hid (top_small t.data.toList (by rw [len_L]; omega))
  have T3 := Lib.hid (top_small (s.data.toList ++ 10 :: t.data.toList) (by rw [List.length_append, List.length_cons, len_L, len_L]; omega))
  go_enter Try.func5, Try.ntmps5
  go_wp2_with fail
  refine (Lex_any _ _).mono ?_
  intro e w1 hq
  rw [T1.out] at hq
  obtain ⟨hb1, hq⟩ := hq
  have HB1 := Lib.hid hb1
  clear hb1
  cases hE1 : lexL s.data.toList with
  | bad p =>
    rw [hE1] at hq HJ
    obtain rfl := hq
    have T3' := Lib.hid (T3.out.trans (congrArg some HJ.out))
    clear hE1 T3
    go_wp2_with fail
    refine (Lex_any _ _).mono ?_
    intro e w2 hq
    rw [T2.out] at hq
    obtain ⟨hb2, hq⟩ := hq
    have HB2 := Lib.hid (HB1.out.trans (hb2.mono HB1.out.size))
    clear hb2
    obtain ⟨v2, p2, e2, rfl⟩ : ∃ v2 p2 e2, e = .returned (.tuple #[v2, .int .i64 p2, .int .i64 e2]) := by
      cases hE2 : lexL t.data.toList with
      | bad q => rw [hE2] at hq; exact ⟨_, _, _, hq⟩
      | good l => rw [hE2] at hq; obtain ⟨v, hq, _⟩ := hq; exact ⟨_, _, _, hq⟩
    clear hq
    go_wp2_with fail
    refine (Lex_any _ _).mono ?_
    intro e w3 hq
    rw [join_L, T3'.out] at hq
    obtain ⟨hb3, hq⟩ := hq
    obtain rfl := hq
    have HB3 := Lib.hid (HB2.out.trans (hb3.mono HB2.out.size))
    clear hb3
    go_wp2_with (first | go_quiet (fail) | (go_at_call 12; refine (num_any _ _).mono ?_; rintro e w2 ⟨rfl, rfl⟩) | (go_at_call 13; refine (awake_any _).mono ?_; rintro e w2 ⟨rfl, hb⟩))
    go_ret
    exact ⟨rfl, HB3.out.trans (hb.mono HB3.out.size)⟩
  | good la =>
    rw [hE1] at hq HJ
    obtain ⟨va, rfl, hown1⟩ := hq
    have hla := lexL_count _ _ hE1
    rw [len_L] at hla
    obtain ⟨ga, capa, hga, rfl, hca⟩ := TokRow.of_own hown1 (by omega)
    have hgal := own_block hown1 (by omega)
    have CA := Lib.hid (TokRow.mk rfl hca : TokRow w1 (.slice (some ⟨ga, 0, none⟩) la.length capa) la ga capa)
    clear hown1 hca hE1
    go_wp2_with fail
    refine (Lex_any _ _).mono ?_
    intro e w2 hq
    rw [T2.out] at hq
    obtain ⟨hb2, hq⟩ := hq
    have HB12 := Lib.hid hb2
    have HB2 := Lib.hid (HB1.out.trans (hb2.mono HB1.out.size))
    have hsz2 := hb2.size
    clear hb2
    cases hE2 : lexL t.data.toList with
    | bad q =>
      rw [hE2] at hq HJ
      obtain rfl := hq
      have T3' := Lib.hid (T3.out.trans (congrArg some HJ.out))
      have hqb := lexL_bad _ _ hE2
      rw [len_L] at hqb
      clear hE2 T3
      obtain ⟨q', hq1, hq2, hq3⟩ : ∃ q', q + (s.data.toList.length + 1) = q' ∧ (q' : Int) ≤ (q : Int) + (s.size : Int) + 1 ∧ (q : Int) + (s.size : Int) + 1 ≤ (q' : Int) := ⟨_, rfl, by rw [len_L]; omega, by rw [len_L]; omega⟩
      have T4 := Lib.hid (show lexTop (s.data.toList ++ 10 :: t.data.toList) = some (.bad q') by rw [T3'.out, ← hq1]; rfl)
      clear hq1 T3'
      go_wp2_with fail
      refine (Lex_any _ _).mono ?_
      intro e w3 hq
      rw [join_L, T4.out] at hq
      obtain ⟨hb3, hq⟩ := hq
      obtain rfl := hq
      have HB3 := Lib.hid (HB2.out.trans (hb3.mono HB2.out.size))
      clear hb3
      go_wp2_with (first | go_quiet (fail) | (go_at_call 12; refine (num_any _ _).mono ?_; rintro e w2 ⟨rfl, rfl⟩) | (go_at_call 13; refine (awake_any _).mono ?_; rintro e w2 ⟨rfl, hb⟩))
      go_ret
      exact ⟨rfl, HB3.out.trans (hb.mono HB3.out.size)⟩
    | good lb =>
      rw [hE2] at hq HJ
      obtain ⟨vb, rfl, hown2⟩ := hq
      have hlb := lexL_count _ _ hE2
      have hpos := lexL_pos _ _ hE2
      rw [len_L] at hlb hpos
      obtain ⟨gb, capb, hgb, rfl, hcb⟩ := TokRow.of_own hown2 (by omega)
      have hgbl := own_block hown2 (by omega)
      have CB := Lib.hid (TokRow.mk rfl hcb : TokRow w2 (.slice (some ⟨gb, 0, none⟩) lb.length capb) lb gb capb)
      have HPOS := Lib.hid hpos
      clear hown2 hcb hE2 hpos
      obtain ⟨lc, hlc⟩ : ∃ lc, lc = la.dropLast ++ lb.map (Tok.shift (s.data.toList.length + 1)) := ⟨_, rfl⟩
      have T4 := Lib.hid (show lexTop (s.data.toList ++ 10 :: t.data.toList) = some (.good lc) by rw [T3.out, HJ.out, hlc]; rfl)
      have hcl : lc.length + 1 = la.length + lb.length := by rw [hlc]; simp; omega
      have hcl1 : (lc.length : Int) ≤ (la.length : Int) + (lb.length : Int) - 1 := by omega
      have hcl2 : (la.length : Int) + (lb.length : Int) - 1 ≤ (lc.length : Int) := by omega
      have hcpos : 0 < lc.length := by omega
      have HCL := Lib.hid hcl
      have HLC := Lib.hid hlc
      clear hcl hlc T3
      go_wp2_with fail
      refine (Lex_any _ _).mono ?_
      intro e w3 hq
      rw [join_L, T4.out] at hq
      obtain ⟨hb3, vc, rfl, hown3⟩ := hq
      obtain ⟨gc, capc, hgc, rfl, hcc⟩ := TokRow.of_own hown3 hcpos
      have hgcl := own_block hown3 hcpos
      have CC := Lib.hid (TokRow.mk rfl hcc : TokRow w3 (.slice (some ⟨gc, 0, none⟩) lc.length capc) lc gc capc)
      have HB3 := Lib.hid (HB2.out.trans (hb3.mono HB2.out.size))
      have hsz3 := hb3.size
      have CA3 := Lib.hid ((CA.out.later HB12.out hgal).later hb3 (by omega))
      have CB3 := Lib.hid (CB.out.later hb3 hgbl)
      clear hown3 hcc hb3
      have hne : ((lc.length : Int) != (la.length : Int) + (lb.length : Int) - 1) = false := by simp; omega
      go_wp2_with (first | go_quiet (fail) | (go_at_call 12; refine (num_any _ _).mono ?_; rintro e w2 ⟨rfl, rfl⟩) | (go_at_call 13; refine (awake_any _).mono ?_; rintro e w2 ⟨rfl, hb⟩))
      go_loopw [14] (fun i wr => ∃ k : Nat, k ≤ lc.length ∧ i = .int .i64 k ∧ Below w3.heap.size w3 wr) (fun i _ => lc.length - (intOf i).toNat)
      case atStart => exact ⟨0, by omega, rfl, Below.refl _ _⟩
      case round =>
        obtain ⟨k, hk, rfl, hb⟩ := hrel
        have hszr := hb.size
        have HB := Lib.hid hb
        have hga2 : ga < wr.heap.size := by omega
        have hgb2 : gb < wr.heap.size := by omega
        have hgc2 : gc < wr.heap.size := by omega
        by_cases hlt : k < lc.length
        · have hC := (CC.out.tok k hlt).later hb hgcl
          by_cases hka : k + 1 < la.length
          · have hA := (CA3.out.tok k (by omega)).later hb (by omega)
            have heq : lc[k] = la[k] := by
              simp only [HLC.out]
              rw [List.getElem_append_left (by simp; omega)]
              simp
            rw [heq] at hC
            generalize la[k] = ta at *
            obtain ⟨a0, a1, a2, a3⟩ := hA
            obtain ⟨x0, x1, x2, x3⟩ := hC
            clear heq hb
            go_wp2_with (go_quiet (fail))
            exact ⟨⟨k + 1, by omega, by go_num, below_drewN (HB.out.alloc hszr _) _⟩, by simp [intOf]; omega⟩
          · have hcl := HCL.out
            obtain ⟨j, hj⟩ : ∃ j, k + 1 = la.length + j := ⟨k + 1 - la.length, by omega⟩
            have hjb : j < lb.length := by omega
            have hji : (k : Int) - (la.length : Int) + 1 = (j : Int) := by omega
            have hAb := (CB3.out.tok j hjb).later hb (by omega)
            have hps := HPOS.out lb[j] (List.getElem_mem _)
            have heq : lc[k] = (lb[j]).shift (s.data.toList.length + 1) := by
              simp only [HLC.out]
              rw [List.getElem_append_right (by simp; omega)]
              simp only [List.getElem_map, List.length_dropLast]
              congr 2
              omega
            rw [heq, len_L] at hC
            generalize lb[j] = ta at *
            obtain ⟨a0, a1, a2, a3⟩ := hAb
            obtain ⟨x0, x1, x2, x3⟩ := hC
            simp only [Tok.shift] at x0 x1 x2 x3
            clear heq hb hcl hj
            go_wp2_with (go_quiet (fail))
            exact ⟨⟨k + 1, by omega, by go_num, below_drewN (HB.out.alloc hszr _) _⟩, by simp [intOf]; omega⟩
        · clear hb
          go_wp2_with (first | go_quiet (fail) | (go_at_call 13; refine (awake_any _).mono ?_; rintro e w2 ⟨rfl, hb⟩))
          go_ret
          have h1 := HB3.out.trans (HB.out.mono HB3.out.size)
          exact ⟨rfl, h1.trans (hb.mono h1.size)⟩
end Go.Proofs.Ythmhbhlkbihdbaa
