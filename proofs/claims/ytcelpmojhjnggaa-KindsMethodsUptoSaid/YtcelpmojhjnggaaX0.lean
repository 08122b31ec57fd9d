/- The document's Methods. -/
import Derived.Test.YtcelpmojhjnggaaW5
import Derived.Deep.Cut
import Derived.Deep.DeepCutAuto
import Derived.Deep.RegionHeld3
import Derived.BigRegion
namespace Go.Proofs.Ytcelpmojhjnggaa
open Go Go.RowKit Go.Sort Go.Deep KindsP
set_option maxHeartbeats 4000000
set_option maxRecDepth 100000

theorem eq39n (w : World) (c : Nat) : (binOp .eql 39 (.slice none 0 c) (.slice none 0 0)).run Try.prog w = .ok (.bool true) w := by kernel_rfl
theorem eq39s (w : World) (ad : Addr) (n c : Nat) : (binOp .eql 39 (.slice (some ad) n c) (.slice none 0 0)).run Try.prog w = .ok (.bool false) w := by kernel_rfl
theorem rowG_news (w0 : World) (d b o m c : Nat) (l : List Fld) (h : RowG 6 (LiesF w0 d) w0 (.slice (some ⟨b, o, none⟩) m c) l) : ∃ news : List Value, news.length = l.length * 6 ∧ (∀ j u, news[j]? = some u → w0.cell? ⟨b, o + j, none⟩ = some u) ∧ (∀ u ∈ news, u.oneCell' = true) ∧ FCells w0 d news l := by
  have key : ∀ k, k ≤ l.length → ∃ news : List Value, news.length = k * 6 ∧ (∀ j u, news[j]? = some u → w0.cell? ⟨b, o + j, none⟩ = some u) ∧ (∀ u ∈ news, u.oneCell' = true) ∧ FCells w0 d news (l.take k) := by
    intro k
    induction k with
    | zero => intro _; exact ⟨[], rfl, by simp, by simp, fun k x hx => by simp at hx⟩
    | succ k ih =>
      intro hk
      obtain ⟨news, e1, e2, e3, e4⟩ := ih (by omega)
      obtain ⟨cs, ⟨z0, z1, z2, z3, z4, rfl, hty⟩, hcs⟩ := h.get k l[k] (by simp)
      obtain ⟨x, hx⟩ : ∃ x, l[k] = x := ⟨_, rfl⟩
      rw [hx] at hty hcs
      obtain ⟨x0, x1, x2, x3, x4, x5, x6, x7, x8, rfl, rfl, rfl, rfl, rfl⟩ := lies_form hty
      refine ⟨news ++ [.string x.name, .int .i64 x0, .string x1, .string x2, .slice x3 x4 x5, .slice x6 x7 x8], by rw [List.length_append, e1]; simp; omega, fun j u hu => ?_, fun u hu => ?_, ?_⟩
      · by_cases hj : j < news.length
        · rw [List.getElem?_append_left hj] at hu; exact e2 j u hu
        · rw [List.getElem?_append_right (by omega)] at hu
          have := hcs (j - news.length) u hu
          rw [show o + k * 6 + (j - news.length) = o + j by omega] at this
          exact this
      · rcases List.mem_append.1 hu with hu | hu
        · exact e3 u hu
        · simp only [List.mem_cons, List.not_mem_nil, or_false] at hu
          rcases hu with rfl | rfl | rfl | rfl | rfl | rfl <;> simp [Value.oneCell']
      · rw [List.take_add_one, List.getElem?_eq_getElem (by omega), hx]
        exact e4.snoc (by rw [e1, List.length_take]; congr 1; omega) _ _ _ _ _ _ x ⟨_, _, _, _, _, rfl, hty⟩
  obtain ⟨news, e1, e2, e3, e4⟩ := key l.length (Nat.le_refl _)
  rw [List.take_length] at e4
  exact ⟨news, e1, e2, e3, e4⟩
theorem rowG_news' (w0 : World) (d m c : Nat) (ad : Addr) (l : List Fld) (h : RowG 6 (LiesF w0 d) w0 (.slice (some ad) m c) l) : ∃ news : List Value, news.length = l.length * 6 ∧ (∀ j u, news[j]? = some u → w0.cell? (ad.add j) = some u) ∧ (∀ u ∈ news, u.oneCell' = true) ∧ FCells w0 d news l := by
  by_cases hl : l = []
  · subst hl; exact ⟨[], rfl, by simp, by simp, fun k x hx => by simp at hx⟩
  · have key : ∃ b o, ad = ⟨b, o, none⟩ := by
      obtain ⟨a, c', h1, _, _, h4⟩ := h
      rcases h4 with h4 | ⟨b, o, h5, _⟩
      · exact absurd h4 hl
      · rw [h5] at h1
        simp only [Value.slice.injEq, Option.some.injEq] at h1
        exact ⟨b, o, h1.1⟩
    obtain ⟨b, o, rfl⟩ := key
    obtain ⟨news, e1, e2, e3, e4⟩ := rowG_news w0 d b o m c l h
    exact ⟨news, e1, fun j u hu => by rw [addr_add]; exact e2 j u hu, e3, e4⟩
theorem clone53_any (d : Nat) (w0 w : World) (v : Value) (l : List Fld) (h : RowG 6 (LiesF w0 d) w0 v l) (hb0 : Below w0.heap.size w0 w) (hn : l.length ≤ 1000000) : Calls Try.prog 53 #[v] w (PutPost w0 d w w.heap.size l) := by
  obtain ⟨i9, hi9, hz90, hz91, hz92⟩ := info_parts Try.info52'
  obtain ⟨a, c, rfl, hcc, hcm, hf⟩ := h.form
  cases a with
  | none =>
    have hl : l = [] := by
      cases l with
      | nil => rfl
      | cons x xs => obtain ⟨b, o, e⟩ := hf (by simp); cases e
    subst hl
    have heq := eq39n
    clear h hf hcc
    go_enter Try.func53, Try.ntmps53
    go_wp2_with fail
    go_ret
    exact ⟨Below.refl _ _, _, rfl, OwnF.nil _ _ _ _⟩
  | some ad =>
    obtain ⟨news, e1, e2, e3, e4⟩ := rowG_news' w0 d _ c ad l h
    have E2 := Lib.hid e2
    have E3 := Lib.hid e3
    have E4 := Lib.hid e4
    have E1 := Lib.hid e1
    have H0 := Lib.hid hb0
    have hw0w := hb0.size
    have heq := eq39s
    have hol : (w.alloc (.cells #[] 52)).ownsRow w.heap.size 52 6 (.slice (some ⟨w.heap.size, 0, none⟩) 0 0) 0 [] := ⟨rfl, .inr ⟨w.heap.size, 0, #[], rfl, Nat.le_refl _, heap_alloc_new w _, Nat.le_refl _, by unfold maxLen; omega, rfl, rfl⟩⟩
    have HOL := Lib.hid hol
    have HNW := Lib.hid (fun j u (hu : news[j]? = some u) => cell_on (H0.out.alloc hw0w (.cells #[] 52)) (E2.out j u hu))
    clear h hf e1 e2 e3 e4 hb0 hol
    go_enter Try.func53, Try.ntmps53
    go_wp2_with (first | (at_builtin; refine wpList_append_own _ rfl (.tmp 5) (.tmp 6) 39 rfl w.heap.size 52 i9 _ 6 104 Try.underlying39 hi9 hz90 hz91 hz92 rfl (by decide) _ 0 [] rfl HOL.out ad l.length c news rfl E1.out HNW.out E3.out (by unfold maxLen; omega) (by omega) (by simp) ?_; intro v' w3 hown3 hgrow hnil; have HO3 := Lib.hid hown3; have HG : Hid ((w.alloc (.cells #[] 52)).grownBy w3 (some w.heap.size)) := hgrow; clear hown3 hgrow hnil))
    obtain ⟨ao, cp, rfl⟩ := own_shape HO3.out
    go_ret
    refine ⟨((Below.refl _ _).alloc (Nat.le_refl _) _).grown HG.out (by simp) (fun k hk => by cases hk; exact Nat.le_refl _), _, rfl, news, ?_, E4.out⟩
    have := HO3.out
    rw [Nat.zero_add, List.nil_append] at this
    show w3.ownsRow w.heap.size 52 6 (.slice ao (0 + l.length) cp) l.length news
    rw [Nat.zero_add]
    exact this
end Go.Proofs.Ytcelpmojhjnggaa
