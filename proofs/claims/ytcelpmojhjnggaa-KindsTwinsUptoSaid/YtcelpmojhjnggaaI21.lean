/- Fields are put in order: two rows are made one. -/
import Derived.Test.YtcelpmojhjnggaaI20
import Derived.Deep.Cut
import Derived.Deep.DeepCutAuto
import Derived.Deep.RegionHeld3
import Derived.BigRegion
namespace Go.Proofs.Ytcelpmojhjnggaa
open Go Go.RowKit Go.Sort Go.Deep KindsP
set_option maxHeartbeats 4000000
set_option maxRecDepth 100000

theorem le_tr {a b c : Fld} (h1 : ltF b a = false) (h2 : ltF c b = false) : ltF c a = false := by
  cases h : ltF c a with
  | false => rfl
  | true =>
    rcases weakF.co c b a h with h3 | h3
    · rw [h2] at h3; cases h3
    · rw [h1] at h3; cases h3
theorem le_lt {a b c : Fld} (h1 : ltF b a = false) (h2 : ltF b c = true) : ltF a c = true := by
  rcases weakF.co b a c h2 with h3 | h3
  · rw [h1] at h3; cases h3
  · exact h3
theorem lt_le {a b c : Fld} (h1 : ltF a b = true) (h2 : ltF c b = false) : ltF a c = true := by
  rcases weakF.co a c b h1 with h3 | h3
  · exact h3
  · rw [h2] at h3; cases h3
theorem sym_split (A B : List Fld) (hA : Srt ltF A) (hB : Srt ltF B) (s t : Nat)
    (h1 : s = 0 ∨ t = B.length ∨ ∃ x y, A[s - 1]? = some x ∧ B[t]? = some y ∧ ltF y x = false)
    (h2 : t = 0 ∨ s = A.length ∨ ∃ x y, A[s]? = some x ∧ B[t - 1]? = some y ∧ ltF y x = true) :
    mrg ltF A B = mrg ltF (A.take s) (B.take t) ++ mrg ltF (A.drop s) (B.drop t) := by
  have key := mrg_part (lt := ltF) (A.take s) (B.take t) (A.drop s) (B.drop t) (fun x hx y hy => ?_) (fun y hy x hx => ?_)
  · rwa [List.take_append_drop, List.take_append_drop] at key
  · rcases h1 with rfl | rfl | ⟨x0, y0, e1, e2, e3⟩
    · simp at hx
    · simp at hy
    · cases s with
      | zero => simp at hx
      | succ s =>
        rw [show s + 1 - 1 = s by omega] at e1
        have l1 : ltF x0 x = false := by
          rcases (around hA s x0 e1).1 x hx with rfl | h
          · exact weakF.irr _
          · exact h
        have l2 : ltF y y0 = false := by
          rcases (around hB t y0 e2).2 y hy with rfl | h
          · exact weakF.irr _
          · exact h
        exact le_tr (le_tr l1 e3) l2
  · rcases h2 with rfl | rfl | ⟨x0, y0, e1, e2, e3⟩
    · simp at hy
    · simp at hx
    · cases t with
      | zero => simp at hy
      | succ t =>
        rw [show t + 1 - 1 = t by omega] at e2
        have l1 : ltF x x0 = false := by
          rcases (around hA s x0 e1).2 x hx with rfl | h
          · exact weakF.irr _
          · exact h
        have l2 : ltF y0 y = false := by
          rcases (around hB t y0 e2).1 y hy with rfl | h
          · exact weakF.irr _
          · exact h
        exact lt_le (le_lt l2 e3) l1
def LoK (A B : List Fld) (a b mid nn i : Nat) : Prop := i = a ∨ nn = i + b ∨ ∃ x y, A[i - a - 1]? = some x ∧ B[mid - i]? = some y ∧ ltF y x = false
def HiK (A B : List Fld) (a m mid j : Nat) : Prop := j = mid ∨ j = m ∨ ∃ x y, A[j - a]? = some x ∧ B[mid - j - 1]? = some y ∧ ltF y x = true
theorem srt_take {A : List Fld} (h : Srt ltF A) (s : Nat) : Srt ltF (A.take s) ∧ Srt ltF (A.drop s) := by
  have : Srt ltF (A.take s ++ A.drop s) := by rw [List.take_append_drop]; exact h
  exact ⟨(List.pairwise_append.1 this).1, (List.pairwise_append.1 this).2.1⟩
def SymAt (N : Nat) : Prop := ∀ (d : Nat) (w0 w : World) (g n c a m b : Nat) (P A B Q : List Fld), A.length + B.length ≤ N → P.length = a → m = a + A.length → b = m + B.length → 0 < A.length → 0 < B.length → Srt ltF A → Srt ltF B → n ≤ 1000000000 → b ≤ n → FRow w0 d w g (P ++ A ++ B ++ Q) →
    Calls Try.prog 77 #[.slice (some ⟨g, 0, none⟩) n c, .int .i64 a, .int .i64 m, .int .i64 b, fCmp] w (TurnPost w0 d w g (P ++ mrg ltF A B ++ Q))
theorem sym_x (N : Nat) (ih : SymAt N) (d : Nat) (w0 w : World) (g n c a m b la lb : Nat) (P A B Q : List Fld) (hN : A.length + B.length ≤ N + 1) (hP : P.length = a) (hla : A.length = la) (hlb : B.length = lb) (hm : m = a + la) (hb : b = m + lb) (h2a : 2 ≤ la) (h2b : 2 ≤ lb) (hsA : Srt ltF A) (hsB : Srt ltF B) (hnm : n ≤ 1000000000) (hn : b ≤ n) (hr : FRow w0 d w g (P ++ A ++ B ++ Q)) :
    Calls Try.prog 77 #[.slice (some ⟨g, 0, none⟩) n c, .int .i64 a, .int .i64 m, .int .i64 b, fCmp] w (TurnPost w0 d w g (P ++ mrg ltF A B ++ Q)) := by
  have HR := Lib.hid hr
  have HP := Lib.hid hP
  have HM := Lib.hid hm
  have HB := Lib.hid hb
  have HLA := Lib.hid hla
  have HLB := Lib.hid hlb
  have HSA := Lib.hid hsA
  have HSB := Lib.hid hsB
  have HIH := Lib.hid ih
  have HNL := Lib.hid hN
  have hbe1 : ((la : Int) == 1) = false := by simp; omega
  have hbe2 : ((lb : Int) == 1) = false := by simp; omega
  have hw0 : IntKind.i64.wrap ((m : Int) - (a : Int)) = (la : Int) := by rw [IntWalk.i64_left, IntWalk.wrap64_in _ (by omega)]; omega
  have hw1 : IntKind.i64.wrap ((b : Int) - (m : Int)) = (lb : Int) := by rw [IntWalk.i64_left, IntWalk.wrap64_in _ (by omega)]; omega
  obtain ⟨mid, hmid⟩ : ∃ mid : Nat, ((a : Int) + (b : Int)) / 2 = (mid : Int) := ⟨(a + b) / 2, by omega⟩
  have HMID := Lib.hid (show 2 * mid ≤ a + b ∧ a + b ≤ 2 * mid + 1 by omega)
  have hmidb : mid < b := by omega
  have hamid : a < mid := by omega
  obtain ⟨nn, hnn⟩ : ∃ nn, nn = mid + m := ⟨_, rfl⟩
  have HNN := Lib.hid hnn
  have hwn : IntKind.i64.wrap ((mid : Int) + (m : Int)) = (nn : Int) := by rw [IntWalk.i64_left, IntWalk.wrap64_in _ (by omega)]; omega
  obtain ⟨pp, hpp⟩ : ∃ pp, pp + 1 = nn := ⟨nn - 1, by omega⟩
  have HPP := Lib.hid hpp
  have hwp : IntKind.i64.wrap ((nn : Int) - 1) = (pp : Int) := by rw [IntWalk.i64_left, IntWalk.wrap64_in _ (by omega)]; omega
  have ham : a ≤ m := by omega
  have hmb : m ≤ b := by omega
  clear hr hP hm hb hla hlb hsA hsB ih hN hnn hpp
  go_enter Try.func77, Try.ntmps77
  go_upto_if 140 with fail
  go_cut [20, 21] (fun iv jv wc => ∃ i j : Nat, a ≤ i ∧ i ≤ j ∧ j ≤ m ∧ j ≤ mid ∧ nn ≤ i + b ∧ Hid (LoK A B a b mid nn i) ∧ Hid (HiK A B a m mid j) ∧ iv = .int .i64 i ∧ jv = .int .i64 j ∧ wc = w)
  case first =>
    by_cases hmm : mid < m
    · obtain ⟨st, hst⟩ : ∃ st, nn = st + b := ⟨nn - b, by have := HNN.out; have := HMID.out; omega⟩
      have hws : IntKind.i64.wrap ((nn : Int) - (b : Int)) = (st : Int) := by rw [IntWalk.i64_left, IntWalk.wrap64_in _ (by have := HNN.out; omega)]; omega
      have HST := Lib.hid hst
      clear hst
      go_wp2_with fail
      go_meet
      case rel => exact ⟨st, mid, by have := HST.out; have := HNN.out; have := HMID.out; omega, by have := HST.out; have := HNN.out; omega, by omega, Nat.le_refl _, by rw [HST.out]; exact Nat.le_refl _, Lib.hid (.inr (.inl HST.out)), Lib.hid (.inl rfl), rfl, rfl, rfl⟩
    · go_wp2_with fail
      go_meet
      case rel => exact ⟨a, m, Nat.le_refl _, by omega, Nat.le_refl _, by omega, by have := HNN.out; have := HMID.out; omega, Lib.hid (.inl rfl), Lib.hid (.inr (.inl rfl)), rfl, rfl, rfl⟩
  case rest =>
    obtain ⟨i0, j0, hI0, hI1, hI2, hI3, hI4, hI5, hI6, rfl, rfl, rfl⟩ := hcut
    have HI := Lib.hid (show a ≤ i0 ∧ i0 ≤ j0 ∧ j0 ≤ m ∧ j0 ≤ mid ∧ nn ≤ i0 + b ∧ Hid (LoK A B a b mid nn i0) ∧ Hid (HiK A B a m mid j0) from ⟨hI0, hI1, hI2, hI3, hI4, hI5, hI6⟩)
    clear hI0 hI1 hI2 hI3 hI4 hI5 hI6
    go_wp2_with fail
    go_loopw [20, 21] (fun iv jv wr => ∃ i j : Nat, a ≤ i ∧ i ≤ j ∧ j ≤ m ∧ j ≤ mid ∧ nn ≤ i + b ∧ Hid (LoK A B a b mid nn i) ∧ Hid (HiK A B a m mid j) ∧ iv = .int .i64 i ∧ jv = .int .i64 j ∧ Aside g g wc wr ∧ FRow w0 d wr g (P ++ A ++ B ++ Q)) (fun iv jv _ => (intOf jv).toNat - (intOf iv).toNat)
    case atStart =>
      obtain ⟨h0, h1, h2, h3, h4, h5, h6⟩ := HI.out
      exact ⟨i0, j0, h0, h1, h2, h3, h4, h5, h6, rfl, rfl, Aside.refl _ _ _, HR.out⟩
    case round =>
      clear HI
      obtain ⟨i, j, hai, hij, hjm, hjd, hnb, K1, K2, rfl, rfl, has, hrow⟩ := hrel
      have HAS := Lib.hid has
      by_cases hlt : i < j
      · obtain ⟨h, hh⟩ : ∃ h : Nat, ((i : Int) + (j : Int)) / 2 = (h : Int) := ⟨(i + j) / 2, by omega⟩
        have hih : i ≤ h := by omega
        have hhj : h < j := by omega
        obtain ⟨u, hu⟩ : ∃ u, h = a + u := ⟨h - a, by omega⟩
        obtain ⟨v, hv⟩ : ∃ v, v + h + 1 = mid := ⟨mid - h - 1, by omega⟩
        obtain ⟨q, hq⟩ : ∃ q, q = m + v := ⟨_, rfl⟩
        have hvb : v < lb := by have := HB.out; have := HNN.out; omega
        have hqp : q + h = pp := by have := HPP.out; have := HNN.out; omega
        have hwq : IntKind.i64.wrap ((pp : Int) - (h : Int)) = (q : Int) := by rw [IntWalk.i64_left, IntWalk.wrap64_in _ (by have := HPP.out; have := HNN.out; omega)]; omega
        have HU := Lib.hid hu
        have HV := Lib.hid hv
        obtain ⟨x, hx⟩ : ∃ x, A[u]? = some x := ⟨_, List.getElem?_eq_getElem (by have := HLA.out; have := HM.out; omega)⟩
        obtain ⟨y, hy⟩ : ∃ y, B[v]? = some y := ⟨_, List.getElem?_eq_getElem (by have := HLB.out; omega)⟩
        have HX := Lib.hid hx
        have HY := Lib.hid hy
        obtain ⟨x0, x1, x2, x3, x4, x5, x6, x7, x8, ⟨f0, f1, f2, f3, f4, f5⟩, hlx⟩ := hrow.cell h x (by
          rw [show P ++ A ++ B ++ Q = P ++ (A ++ (B ++ Q)) by simp, List.getElem?_append_right (by rw [HP.out]; omega), HP.out, show h - a = u by omega, List.getElem?_append_left (List.getElem?_eq_some_iff.1 hx).1, hx])
        obtain ⟨y0, y1, y2, y3, y4, y5, y6, y7, y8, ⟨g0, g1, g2, g3, g4, g5⟩, hly⟩ := hrow.cell q y (by
          have l : (P ++ A).length = m := by rw [List.length_append, HP.out, HLA.out]; exact HM.out.symm
          rw [show P ++ A ++ B ++ Q = (P ++ A) ++ (B ++ Q) by simp, List.getElem?_append_right (by rw [l]; omega), l, show q - m = v by omega, List.getElem?_append_left (List.getElem?_eq_some_iff.1 hy).1, hy])
        have HROW := Lib.hid hrow
        have HSW := Lib.hid (fun (W' : World) (h' : Below wr.heap.size wr W') => (show W'.cell? ⟨g, q * 6, none⟩ = some (.string y.name) ∧ W'.cell? ⟨g, q * 6 + 1, none⟩ = some (.int .i64 y0) ∧ W'.cell? ⟨g, q * 6 + 2, none⟩ = some (.string y1) ∧ W'.cell? ⟨g, q * 6 + 3, none⟩ = some (.string y2) ∧ W'.cell? ⟨g, q * 6 + 4, none⟩ = some (.slice y3 y4 y5) ∧ W'.cell? ⟨g, q * 6 + 5, none⟩ = some (.slice y6 y7 y8) ∧ W'.cell? ⟨g, h * 6, none⟩ = some (.string x.name) ∧ W'.cell? ⟨g, h * 6 + 1, none⟩ = some (.int .i64 x0) ∧ W'.cell? ⟨g, h * 6 + 2, none⟩ = some (.string x1) ∧ W'.cell? ⟨g, h * 6 + 3, none⟩ = some (.string x2) ∧ W'.cell? ⟨g, h * 6 + 4, none⟩ = some (.slice x3 x4 x5) ∧ W'.cell? ⟨g, h * 6 + 5, none⟩ = some (.slice x6 x7 x8) from ⟨cell_on h' g0, cell_on h' g1, cell_on h' g2, cell_on h' g3, cell_on h' g4, cell_on h' g5, cell_on h' f0, cell_on h' f1, cell_on h' f2, cell_on h' f3, cell_on h' f4, cell_on h' f5⟩))
        have HCM := Lib.hid (clo55_any wr.drew y.name x.name y0 x0 y1 y2 x1 x2 y3 y6 x3 x6 y4 y5 y7 y8 x4 x5 x7 x8)
        obtain ⟨ci, hci⟩ : ∃ ci, cmpI y.name x.name = ci := ⟨_, rfl⟩
        have hcn := cmpI_neg y.name x.name
        rw [hci] at HCM hcn
        have HCN := Lib.hid hcn
        have hh0 : (0 : Int) ≤ (h : Int) := by omega
        have hh1 : (h : Int) < (n : Int) := by omega
        have ha0 : (0 : Int) ≤ (q : Int) := by omega
        have ha1 : (q : Int) < (n : Int) := by have := HB.out; omega
        clear hci hcn has hrow hx hy hu hv hq hvb hqp hlx hly f0 g0 f1 g1 f2 g2 f3 g3 f4 g4 f5 g5
        by_cases hneg : ci < 0
        · have HLT := Lib.hid (show ltF y x = true by have := HCN.out; rw [eq_iff_iff] at this; exact this.1 hneg)
          have hdec : decide (ci < 0) = true := by simpa using hneg
          go_upto_region 35 with fail
          go_region_held3 (fun w' => w'.cell? ⟨g, q * 6, none⟩ = some (.string y.name) ∧ w'.cell? ⟨g, q * 6 + 1, none⟩ = some (.int .i64 y0) ∧ w'.cell? ⟨g, q * 6 + 2, none⟩ = some (.string y1) ∧ w'.cell? ⟨g, q * 6 + 3, none⟩ = some (.string y2) ∧ w'.cell? ⟨g, q * 6 + 4, none⟩ = some (.slice y3 y4 y5) ∧ w'.cell? ⟨g, q * 6 + 5, none⟩ = some (.slice y6 y7 y8) ∧ w'.cell? ⟨g, h * 6, none⟩ = some (.string x.name) ∧ w'.cell? ⟨g, h * 6 + 1, none⟩ = some (.int .i64 x0) ∧ w'.cell? ⟨g, h * 6 + 2, none⟩ = some (.string x1) ∧ w'.cell? ⟨g, h * 6 + 3, none⟩ = some (.string x2) ∧ w'.cell? ⟨g, h * 6 + 4, none⟩ = some (.slice x3 x4 x5) ∧ w'.cell? ⟨g, h * 6 + 5, none⟩ = some (.slice x6 x7 x8)) (first | exact HSW.out _ (Below.refl _ _).drew | exact HSW.out _ HB7.out) (first | (go_at_call 55; refine HCM.out.mono ?_; rintro e w7 ⟨rfl, hb7⟩; have HB7 : Hid (Below wr.heap.size wr w7) := Lib.hid (below_drew hb7); clear hb7))
          go_wp2_with fail
          refine ⟨⟨i, h, hai, hih, by omega, by omega, hnb, K1, Lib.hid (.inr (.inr ⟨x, y, ?_, ?_, HLT.out⟩)), rfl, rfl, HAS.out.trans (Aside.of HB7.out), HROW.out.below HB7.out⟩, by simp [intOf]; omega⟩
          · rw [show h - a = u by have := HU.out; omega]; exact HX.out
          · rw [show mid - h - 1 = v by have := HV.out; omega]; exact HY.out
        · have HLT := Lib.hid (show ltF y x = false by
            cases h : ltF y x with
            | false => rfl
            | true => exact absurd (by have := HCN.out; rw [eq_iff_iff] at this; exact this.2 h) hneg)
          have hdec : decide (ci < 0) = false := by simpa using hneg
          go_upto_region 35 with fail
          go_region_held3 (fun w' => w'.cell? ⟨g, q * 6, none⟩ = some (.string y.name) ∧ w'.cell? ⟨g, q * 6 + 1, none⟩ = some (.int .i64 y0) ∧ w'.cell? ⟨g, q * 6 + 2, none⟩ = some (.string y1) ∧ w'.cell? ⟨g, q * 6 + 3, none⟩ = some (.string y2) ∧ w'.cell? ⟨g, q * 6 + 4, none⟩ = some (.slice y3 y4 y5) ∧ w'.cell? ⟨g, q * 6 + 5, none⟩ = some (.slice y6 y7 y8) ∧ w'.cell? ⟨g, h * 6, none⟩ = some (.string x.name) ∧ w'.cell? ⟨g, h * 6 + 1, none⟩ = some (.int .i64 x0) ∧ w'.cell? ⟨g, h * 6 + 2, none⟩ = some (.string x1) ∧ w'.cell? ⟨g, h * 6 + 3, none⟩ = some (.string x2) ∧ w'.cell? ⟨g, h * 6 + 4, none⟩ = some (.slice x3 x4 x5) ∧ w'.cell? ⟨g, h * 6 + 5, none⟩ = some (.slice x6 x7 x8)) (first | exact HSW.out _ (Below.refl _ _).drew | exact HSW.out _ HB7.out) (first | (go_at_call 55; refine HCM.out.mono ?_; rintro e w7 ⟨rfl, hb7⟩; have HB7 : Hid (Below wr.heap.size wr w7) := Lib.hid (below_drew hb7); clear hb7))
          go_wp2_with fail
          refine ⟨⟨h + 1, j, by omega, by omega, hjm, hjd, by omega, Lib.hid (.inr (.inr ⟨x, y, ?_, ?_, HLT.out⟩)), K2, by go_num, rfl, HAS.out.trans (Aside.of HB7.out), HROW.out.below HB7.out⟩, by simp [intOf]; omega⟩
          · rw [show h + 1 - a - 1 = u by have := HU.out; omega]; exact HX.out
          · rw [show mid - (h + 1) = v by have := HV.out; omega]; exact HY.out
      · obtain rfl : i = j := by omega
        obtain ⟨s, hs⟩ : ∃ s, i = a + s := ⟨i - a, by omega⟩
        obtain ⟨t, ht⟩ : ∃ t, t + i = mid := ⟨mid - i, by omega⟩
        obtain ⟨e, he⟩ : ∃ e, e + i = nn := ⟨nn - i, by have := HNN.out; omega⟩
        have hwe : IntKind.i64.wrap ((nn : Int) - (i : Int)) = (e : Int) := by rw [IntWalk.i64_left, IntWalk.wrap64_in _ (by have := HNN.out; omega)]; omega
        have hme : m ≤ e := by have := HNN.out; omega
        have heb : e ≤ b := by omega
        have hsl : s ≤ la := by have := HM.out; omega
        have htl : t ≤ lb := by have := HNN.out; have := HB.out; omega
        have HG := Lib.hid (sym_split A B HSA.out HSB.out s t
          (by
            rcases K1.out with h | h | ⟨x, y, h1, h2, h3⟩
            · exact .inl (by omega)
            · exact .inr (.inl (by rw [HLB.out]; have := HNN.out; have := HB.out; omega))
            · exact .inr (.inr ⟨x, y, by rw [show s - 1 = i - a - 1 by omega]; exact h1, by rw [show t = mid - i by omega]; exact h2, h3⟩))
          (by
            rcases K2.out with h | h | ⟨x, y, h1, h2, h3⟩
            · exact .inl (by omega)
            · exact .inr (.inl (by rw [HLA.out]; have := HM.out; omega))
            · exact .inr (.inr ⟨x, y, by rw [show s = i - a by omega]; exact h1, by rw [show t - 1 = mid - i - 1 by omega]; exact h2, h3⟩)))
        have HS := Lib.hid hs
        have HT := Lib.hid ht
        have HE := Lib.hid he
        have lA1 := Lib.hid (show (A.take s).length = s by rw [List.length_take, HLA.out]; omega)
        have lA2 := Lib.hid (show (A.drop s).length = la - s by rw [List.length_drop, HLA.out])
        have lB1 := Lib.hid (show (B.take t).length = t by rw [List.length_take, HLB.out]; omega)
        have lB2 := Lib.hid (show (B.drop t).length = lb - t by rw [List.length_drop, HLB.out])
        have HROW := Lib.hid (show FRow w0 d wr g (P ++ A.take s ++ A.drop s ++ B.take t ++ (B.drop t ++ Q)) by
          rw [show P ++ A.take s ++ A.drop s ++ B.take t ++ (B.drop t ++ Q) = P ++ (A.take s ++ A.drop s) ++ (B.take t ++ B.drop t) ++ Q by simp only [List.append_assoc], List.take_append_drop, List.take_append_drop]; exact hrow)
        have HAS1 := HAS
        have HCR := Lib.hid (fun (hu : 0 < (A.drop s).length) (hv : 0 < (B.take t).length) => rot80_any d w0 wr g n c i m e (P ++ A.take s) (A.drop s) (B.take t) (B.drop t ++ Q) (by rw [List.length_append, HP.out, lA1.out]; exact hs.symm) (by rw [lA2.out]; have := HM.out; omega) (by rw [lB1.out]; have := HNN.out; omega) hu hv hnm (by omega) HROW.out)
        clear has hrow K1 K2 hs ht he HAS
        have HC1 := Lib.hid (fun (W : World) (hr : FRow w0 d W g (P ++ A.take s ++ B.take t ++ (A.drop s ++ B.drop t ++ Q))) (hu : 0 < (A.take s).length) (hv : 0 < (B.take t).length) => HIH.out d w0 W g n c a i mid P (A.take s) (B.take t) (A.drop s ++ B.drop t ++ Q) (by rw [lA1.out, lB1.out]; have := HNL.out; rw [HLA.out, HLB.out] at this; have := HS.out; have := HT.out; have := HM.out; have := HB.out; omega) HP.out (by rw [lA1.out]; exact HS.out) (by rw [lB1.out]; have := HT.out; omega) hu hv (srt_take HSA.out s).1 (srt_take HSB.out t).1 hnm (by omega) hr)
        have HC2 := Lib.hid (fun (W : World) (hr : FRow w0 d W g (P ++ mrg ltF (A.take s) (B.take t) ++ A.drop s ++ B.drop t ++ Q)) (hu : 0 < (A.drop s).length) (hv : 0 < (B.drop t).length) => HIH.out d w0 W g n c mid e b (P ++ mrg ltF (A.take s) (B.take t)) (A.drop s) (B.drop t) Q (by rw [lA2.out, lB2.out]; have := HNL.out; rw [HLA.out, HLB.out] at this; have := HS.out; have := HT.out; have := HM.out; have := HB.out; omega) (by rw [List.length_append, mrg_length, lA1.out, lB1.out, HP.out]; have := HS.out; have := HT.out; omega) (by rw [lA2.out]; have := HS.out; have := HT.out; have := HM.out; have := HE.out; have := HNN.out; omega) (by rw [lB2.out]; have := HS.out; have := HT.out; have := HB.out; have := HE.out; have := HNN.out; omega) hu hv (srt_take HSA.out s).2 (srt_take HSB.out t).2 hnm (by omega) hr)
        have uA1 := Lib.hid (fun (h : a < i) => (show 0 < (A.take s).length by rw [lA1.out]; have := HS.out; omega))
        have uB1 := Lib.hid (fun (h : i < mid) => (show 0 < (B.take t).length by rw [lB1.out]; have := HT.out; omega))
        have uA2 := Lib.hid (fun (h : i < m) => (show 0 < (A.drop s).length by rw [lA2.out]; have := HS.out; have := HM.out; omega))
        have uB2 := Lib.hid (fun (h : e < b) => (show 0 < (B.drop t).length by rw [lB2.out]; have := HT.out; have := HE.out; have := HNN.out; have := HB.out; omega))
        have eme := Lib.hid (show (m < e ↔ i < mid) by have := HE.out; have := HNN.out; omega)
        have emide := Lib.hid (show (mid < e ↔ i < m) by have := HE.out; have := HNN.out; omega)
        have zA1 := Lib.hid (fun (h : ¬ a < i) => (show A.take s = [] from List.length_eq_zero_iff.1 (by rw [lA1.out]; have := HS.out; omega)))
        have zB1 := Lib.hid (fun (h : ¬ i < mid) => (show B.take t = [] from List.length_eq_zero_iff.1 (by rw [lB1.out]; have := HT.out; omega)))
        have zA2 := Lib.hid (fun (h : ¬ i < m) => (show A.drop s = [] from List.length_eq_zero_iff.1 (by rw [lA2.out]; have := HS.out; have := HM.out; omega)))
        have zB2 := Lib.hid (fun (h : ¬ e < b) => (show B.drop t = [] from List.length_eq_zero_iff.1 (by rw [lB2.out]; have := HT.out; have := HE.out; have := HNN.out; have := HB.out; omega)))
        have HGO : Hid (∀ W, FRow w0 d W g (P ++ mrg ltF (A.take s) (B.take t) ++ mrg ltF (A.drop s) (B.drop t) ++ Q) → FRow w0 d W g (P ++ mrg ltF A B ++ Q)) := Lib.hid (fun W h => by rw [HG.out]; simpa only [List.append_assoc, List.nil_append, List.append_nil] using h)
        have X4 : Hid ((a < i ∧ i < mid) ∨ (∀ W, FRow w0 d W g (P ++ A.take s ++ B.take t ++ (A.drop s ++ B.drop t ++ Q)) → FRow w0 d W g (P ++ mrg ltF (A.take s) (B.take t) ++ A.drop s ++ B.drop t ++ Q))) := Lib.hid (by
          by_cases h1 : a < i
          · by_cases h2 : i < mid
            · exact .inl ⟨h1, h2⟩
            · exact .inr (fun W h => by rw [zB1.out h2] at h ⊢; rw [mrg_nil]; simpa only [List.append_assoc, List.nil_append, List.append_nil] using h)
          · exact .inr (fun W h => by rw [zA1.out h1] at h ⊢; rw [show mrg ltF [] (B.take t) = B.take t by rw [mrg]]; simpa only [List.append_assoc, List.nil_append, List.append_nil] using h))
        have X5 : Hid ((mid < e ∧ e < b) ∨ (∀ W, FRow w0 d W g (P ++ mrg ltF (A.take s) (B.take t) ++ A.drop s ++ B.drop t ++ Q) → FRow w0 d W g (P ++ mrg ltF A B ++ Q))) := Lib.hid (by
          by_cases h1 : mid < e
          · by_cases h2 : e < b
            · exact .inl ⟨h1, h2⟩
            · exact .inr (fun W h => HGO.out W (by rw [zB2.out h2] at h ⊢; rw [mrg_nil]; simpa only [List.append_assoc, List.nil_append, List.append_nil] using h))
          · exact .inr (fun W h => HGO.out W (by rw [zA2.out (fun h => h1 (emide.out.2 h))] at h ⊢; rw [show mrg ltF [] (B.drop t) = B.drop t by rw [mrg]]; simpa only [List.append_assoc, List.nil_append, List.append_nil] using h)))
        have X3 : Hid ((i < m ∧ m < e) ∨ FRow w0 d wr g (P ++ A.take s ++ B.take t ++ (A.drop s ++ B.drop t ++ Q))) := Lib.hid (by
          by_cases h1 : i < m
          · by_cases h2 : m < e
            · exact .inl ⟨h1, h2⟩
            · exact .inr (by have h := HROW.out; rw [zB1.out (fun h => h2 (eme.out.2 h))] at h ⊢; simpa only [List.append_assoc, List.nil_append, List.append_nil] using h)
          · exact .inr (by have h := HROW.out; rw [zA2.out h1] at h ⊢; simpa only [List.append_assoc, List.nil_append, List.append_nil] using h))
        have C3 : Hid (∀ W, FRow w0 d W g (P ++ A.take s ++ B.take t ++ A.drop s ++ (B.drop t ++ Q)) → FRow w0 d W g (P ++ A.take s ++ B.take t ++ (A.drop s ++ B.drop t ++ Q))) := Lib.hid (fun W h => by simpa only [List.append_assoc, List.nil_append, List.append_nil] using h)
        have AS3 := HAS1
        have D1 := Lib.hid (show ¬ i < m ∨ (i < m ∧ m < e) ∨ (i < m ∧ ¬ m < e) by omega)
        have D2 := Lib.hid (show ¬ a < i ∨ (a < i ∧ i < mid) ∨ (a < i ∧ ¬ i < mid) by omega)
        have D3 := Lib.hid (show ¬ mid < e ∨ (mid < e ∧ e < b) ∨ (mid < e ∧ ¬ e < b) by omega)
        clear hme heb hsl htl hai hij hjm hjd hnb hlt HG HROW
        rcases D1.out with h1 | ⟨h1, h1'⟩ | ⟨h1, h1'⟩ <;> rcases D2.out with h2 | ⟨h2, h2'⟩ | ⟨h2, h2'⟩ <;> rcases D3.out with h3 | ⟨h3, h3'⟩ | ⟨h3, h3'⟩
        all_goals try exact absurd (emide.out.1 h3) h1
        all_goals try exact absurd (emide.out.2 h1) h3
        all_goals try exact absurd (eme.out.1 h1') h2'
        all_goals try exact absurd (eme.out.2 h2') h1'
        all_goals
          try (have HR3 := Lib.hid (X3.out.resolve_left (fun h => absurd h.1 h1)))
          try (have HR3 := Lib.hid (X3.out.resolve_left (fun h => absurd h.2 h1')))
          try (have V4 := Lib.hid (X4.out.resolve_left (fun h => absurd h.1 h2)))
          try (have V4 := Lib.hid (X4.out.resolve_left (fun h => absurd h.2 h2')))
          try (have V5 := Lib.hid (X5.out.resolve_left (fun h => absurd h.1 h3)))
          try (have V5 := Lib.hid (X5.out.resolve_left (fun h => absurd h.2 h3')))
          go_wp2_with (first | (go_at_call 80; refine (HCR.out (uA2.out h1) (uB1.out (eme.out.1 h1'))).mono ?_; rintro e w2 ⟨⟨u, rfl⟩, hr2, ha2⟩; have HR3 := Lib.hid (C3.out _ hr2); have AS3 := Lib.hid (HAS1.out.trans ha2); clear hr2 ha2) | (go_at_call_of 77 (Value.int IntKind.i64 (a : Int)); refine (HC1.out _ HR3.out (uA1.out h2) (uB1.out h2')).mono ?_; rintro e w3 ⟨⟨u, rfl⟩, hr2, ha2⟩; have HR4 : Hid (FRow w0 d w3 g (P ++ mrg ltF (A.take s) (B.take t) ++ A.drop s ++ B.drop t ++ Q)) := Lib.hid (by simpa only [List.append_assoc, List.nil_append, List.append_nil] using hr2); have AS4 := Lib.hid (AS3.out.trans ha2); clear hr2 ha2) | (go_at_call_of 77 (Value.int IntKind.i64 (b : Int)); refine (HC2.out _ HR4.out (uA2.out (emide.out.1 h3)) (uB2.out h3')).mono ?_; rintro e w4 ⟨⟨u, rfl⟩, hr2, ha2⟩; have HR5 := Lib.hid (HGO.out _ hr2); have AS5 := Lib.hid (AS4.out.trans ha2); clear hr2 ha2) | (go_at_call_of 77 (Value.int IntKind.i64 (b : Int)); refine (HC2.out _ (V4.out _ HR3.out) (uA2.out (emide.out.1 h3)) (uB2.out h3')).mono ?_; rintro e w4 ⟨⟨u, rfl⟩, hr2, ha2⟩; have HR5 := Lib.hid (HGO.out _ hr2); have AS5 := Lib.hid (AS3.out.trans ha2); clear hr2 ha2))
          go_end0
          refine ⟨⟨_, rfl⟩, ?_, ?_⟩
          · first | exact HR5.out | exact V5.out _ HR4.out | exact V5.out _ (V4.out _ HR3.out)
          · first | exact AS5.out | exact AS4.out | exact AS3.out
end Go.Proofs.Ytcelpmojhjnggaa
