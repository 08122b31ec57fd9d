/- The document's walk, for every pair of types. -/
import Derived.Test.YtcelpmojhjnggaaQ2
namespace Go.Proofs.Ytcelpmojhjnggaa
open Go Go.RowKit Go.Sort Go.Deep KindsP
set_option maxHeartbeats 2000000
set_option maxRecDepth 100000

theorem walk7_any (d : Nat) : WalkAt d := by
  induction d using Nat.strongRecOn with
  | ind d ih =>
  intro w0 w dd X Y D f vn vp va ns p a hn hp ha hb hX hY hXY hf hdd hs hsa
  obtain ⟨x0, x1, x2, x3, x4, rfl⟩ := lies_five hp
  obtain ⟨y0, y1, y2, y3, y4, rfl⟩ := lies_five ha
  obtain ⟨e, k, pp, np, a1, m1, q1, a2, m2, q2, la, lr, rfl, rfl, rfl, rfl, rfl, rfl, rfl, hra, hrr⟩ := lies_at hp
  have ha' := ha
  obtain ⟨e', k', pa, na, a3, m3, q3, a4, m4, q4, la', lr', rfl, rfl, rfl, rfl, rfl, rfl, rfl, hra', hrr'⟩ := lies_at ha'
  obtain ⟨⟨an, cn, rfl, hn1, hn2⟩, hn3⟩ := id hn
  by_cases h9 : k = 9 ∧ 0 ≤ Lib.idxOfS ns np
  · obtain ⟨rfl, hge⟩ := h9
    obtain ⟨i, hi⟩ : ∃ i : Nat, Lib.idxOfS ns np = i := ⟨(Lib.idxOfS ns np).toNat, by omega⟩
    have hx : infT ns (.mk 9 pp np la lr) (.mk k' pa na la' lr') f = if (f np).isSome then f else upd f np (.mk k' pa na la' lr') := by
      rw [infT, if_pos (by simp [Lib.containsS, hge])]
    rw [hx]
    exact walk7_var w0 w (e' + 1) X Y D f an cn ns pp np k' pa na a1 a2 a3 a4 m1 q1 m2 q2 m3 q3 m4 q4 _ i hn ha hb hY hXY hf hdd hsa hi
  · have hc : ¬ ((k == 9) && Lib.containsS ns np) = true := by
      intro h
      simp only [Lib.containsS, Bool.and_eq_true, beq_iff_eq, decide_eq_true_eq] at h
      exact h9 h
    by_cases h67 : k = k' ∧ (k = 6 ∨ k = 7)
    · have hx : infT ns (.mk k pp np la lr) (.mk k' pa na la' lr') f = infL ns lr lr' (infL ns la la' f) := by
        rw [infT, if_neg hc, if_pos]
        · rfl
        · obtain ⟨rfl, h⟩ := h67
          rcases h with rfl | rfl <;> rfl
      rw [hx]
      rw [sizT] at hs hsa
      obtain ⟨_, _, hx1, _⟩ := hra.form
      simp only [Value.slice.injEq] at hx1
      obtain ⟨rfl, rfl, rfl⟩ := hx1
      obtain ⟨_, _, hx1, _⟩ := hrr.form
      simp only [Value.slice.injEq] at hx1
      obtain ⟨rfl, rfl, rfl⟩ := hx1
      obtain ⟨_, _, hx1, _⟩ := hra'.form
      simp only [Value.slice.injEq] at hx1
      obtain ⟨rfl, rfl, rfl⟩ := hx1
      obtain ⟨_, _, hx1, _⟩ := hrr'.form
      simp only [Value.slice.injEq] at hx1
      obtain ⟨rfl, rfl, rfl⟩ := hx1
      obtain ⟨rfl, h⟩ := h67
      rcases h with rfl | rfl
      · exact walk7_rec6 e e' (ih e (by omega)) w0 w X Y D f an cn ns pp np pa na a1 a2 a3 a4 q1 q2 q3 q4 la lr la' lr' hn hra hrr hra' hrr' hb hX hY hXY hf (by omega) (by omega) (by omega) (by omega) (by omega)
      · exact walk7_rec7 e e' (ih e (by omega)) w0 w X Y D f an cn ns pp np pa na a1 a2 a3 a4 q1 q2 q3 q4 la lr la' lr' hn hra hrr hra' hrr' hb hX hY hXY hf (by omega) (by omega) (by omega) (by omega) (by omega)
    · have hx : infT ns (.mk k pp np la lr) (.mk k' pa na la' lr') f = f := by
        rw [infT, if_neg hc, if_neg]
        intro h
        simp only [Ty.kd, Bool.and_eq_true, Bool.or_eq_true, beq_iff_eq] at h
        exact h67 h
      rw [hx]
      exact walk7_leaf w0 w X Y D f an cn ns k pp np k' pa na a1 a2 a3 a4 m1 q1 m2 q2 m3 q3 m4 q4 hn hb hf (fun h => by omega) h67
end Go.Proofs.Ytcelpmojhjnggaa
