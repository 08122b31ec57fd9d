/- Fields are put in order: insertion. -/
import Derived.Test.YtcelpmojhjnggaaI17
import Derived.Deep.Cut
import Derived.Deep.DeepCutAuto
import Derived.Deep.RegionHeld3
import Derived.BigRegion
namespace Go.Proofs.Ytcelpmojhjnggaa
open Go Go.RowKit Go.Sort Go.Deep KindsP
set_option maxHeartbeats 4000000
set_option maxRecDepth 100000

abbrev fCmp : Value := .func (.func 55) #[] #[]
theorem Aside.drew {X Y : Nat} {a w : World} (h : Aside X Y a w) : Aside X Y a w.drew := ⟨h.os, h.tape, h.output, h.size, h.block⟩
theorem get_mid {α : Type} (P : List α) (x : α) (Q : List α) : (P ++ x :: Q)[P.length]? = some x := by rw [List.getElem?_append_right (Nat.le_refl _)]; simp
theorem set_mid {α : Type} (P : List α) (x y : α) (Q : List α) : (P ++ x :: Q).set P.length y = P ++ y :: Q := by rw [List.set_append_right _ _ (Nat.le_refl _)]; simp
/-- what a function that turns a row leaves -/
def TurnPost (w0 : World) (d : Nat) (w : World) (g : Nat) (l : List Fld) (e : Ending) (w' : World) : Prop := (∃ u, e = .returned u) ∧ FRow w0 d w' g l ∧ Aside g g w w'
theorem swap_two {w0 w : World} {d g : Nat} (P M Q : List Fld) (x y : Fld) (i j : Nat) (hi : P.length = i) (hj : j = i + 1 + M.length) (h : FRow w0 d w g (P ++ x :: (M ++ y :: Q))) (t0 t1 t2 t3 t4 t5 u0 u1 u2 u3 u4 u5 : Value)
    (hx : LiesF w0 d [t0, t1, t2, t3, t4, t5] x) (hy : LiesF w0 d [u0, u1, u2, u3, u4, u5] y) :
    FRow w0 d (six (six w g (i * 6) u0 u1 u2 u3 u4 u5) g (j * 6) t0 t1 t2 t3 t4 t5) g (P ++ y :: (M ++ x :: Q)) ∧ FRow w0 d (six (six w g (j * 6) t0 t1 t2 t3 t4 t5) g (i * 6) u0 u1 u2 u3 u4 u5) g (P ++ y :: (M ++ x :: Q)) := by
  subst hi hj
  have e : ∀ z : Fld, P ++ z :: (M ++ y :: Q) = (P ++ z :: M) ++ y :: Q := fun z => by simp
  have e' : ∀ z : Fld, P ++ z :: (M ++ x :: Q) = (P ++ z :: M) ++ x :: Q := fun z => by simp
  have l : ∀ z : Fld, (P ++ z :: M).length = P.length + 1 + M.length := fun z => by simp; omega
  constructor
  · have h1 := h.set P.length (by simp) u0 u1 u2 u3 u4 u5 y hy
    rw [set_mid, e y] at h1
    have h2 := h1.set (P ++ y :: M).length (by simp) t0 t1 t2 t3 t4 t5 x hx
    rw [set_mid, ← e' y, l y] at h2
    exact h2
  · rw [e x] at h
    have h1 := h.set (P ++ x :: M).length (by simp) t0 t1 t2 t3 t4 t5 x hx
    rw [set_mid, ← e' x, l x] at h1
    have h2 := h1.set P.length (by simp) u0 u1 u2 u3 u4 u5 y hy
    rw [set_mid] at h2
    exact h2
theorem ins_done (S1 S2 : List Fld) (x : Fld) (h : Srt ltF (S1 ++ S2)) (h2 : ∀ s ∈ S2, ltF x s = true) (h1 : ∀ s, S1.getLast? = some s → ltF x s = false) : mrg ltF (S1 ++ S2) [x] = S1 ++ x :: S2 := by
  refine mrg_back S1 S2 x (fun s hs => ?_) h2
  cases hl : S1.getLast? with
  | none => rw [List.getLast?_eq_none_iff] at hl; subst hl; cases hs
  | some z =>
    obtain ⟨T, rfl⟩ := List.getLast?_eq_some_iff.1 hl
    have hz := h1 z hl
    rcases List.mem_append.1 hs with hs | hs
    · cases hxs : ltF x s with
      | false => rfl
      | true =>
        rcases weakF.co x z s hxs with h' | h'
        · rw [hz] at h'; cases h'
        · have := (List.pairwise_append.1 (List.pairwise_append.1 h).1).2.2 s hs z (List.mem_singleton_self _)
          rw [this] at h'; cases h'
    · rw [List.mem_singleton.1 hs]; exact hz
theorem isort_one (l : List Fld) : isort ltF (l.take 1) ++ l.drop 1 = l := by
  cases l with
  | nil => rfl
  | cons x l => show isort ltF [x] ++ l = _; unfold isort; rw [insAll, insAll, mrg]; rfl
theorem ins76_any (d : Nat) (w0 w : World) (g n c a b : Nat) (pre L post : List Fld) (hn : n = (pre ++ L ++ post).length) (ha : pre.length = a) (hab : b = a + L.length) (hnm : n ≤ 1000000000) (hr : FRow w0 d w g (pre ++ L ++ post)) :
    Calls Try.prog 76 #[.slice (some ⟨g, 0, none⟩) n c, .int .i64 a, .int .i64 b, fCmp] w (TurnPost w0 d w g (pre ++ isort ltF L ++ post)) := by
  have hln : a + L.length ≤ n := by rw [hn, ← ha]; simp
  have HR := Lib.hid hr
  have HN := Lib.hid hn
  have HA := Lib.hid ha
  have hbn : b ≤ n := by omega
  have HAB := Lib.hid hab
  clear hr hn ha hab
  go_enter Try.func76, Try.ntmps76
  go_wp2_with fail
  go_loopw [8] (fun iv wr => ∃ i k : Nat, Hid (i = a + k) ∧ 1 ≤ k ∧ (k ≤ L.length ∨ k = 1) ∧ iv = .int .i64 i ∧ Aside g g w wr ∧ FRow w0 d wr g (pre ++ (isort ltF (L.take k) ++ L.drop k) ++ post)) (fun iv _ => b - (intOf iv).toNat)
  case atStart => exact ⟨a + 1, 1, Lib.hid rfl, by omega, .inr rfl, by go_num, Aside.refl _ _ _, by rw [isort_one]; exact HR.out⟩
  case round =>
    obtain ⟨i, k, HIK, hk1, hk2, rfl, has, hrow⟩ := hrel
    have hib : (i < b ↔ k < L.length) := by have h1 := HIK.out; have h2 := HAB.out; omega
    have HAS := Lib.hid has
    have HROW := Lib.hid hrow
    clear has hrow
    by_cases hilt : i < b
    · have hlt : k < L.length := hib.1 hilt
      clear hib
      obtain ⟨x, hx⟩ : ∃ x, L[k] = x := ⟨_, rfl⟩
      have HD := Lib.hid (show L.drop k = x :: L.drop (k + 1) by rw [List.drop_eq_getElem_cons hlt, hx])
      have HT := Lib.hid (show isort ltF (L.take (k + 1)) = mrg ltF (isort ltF (L.take k)) [x] by rw [List.take_add_one, List.getElem?_eq_getElem hlt, hx]; exact isort_snoc ltF _ x)
      have HLEN := Lib.hid (show (isort ltF (L.take k)).length = k by rw [isort_length, List.length_take]; omega)
      have HSRT := Lib.hid (isort_srt weakF (L.take k))
      generalize isort ltF (L.take k) = T at HT HLEN HSRT HROW
      clear hx
      go_wp2_with fail
      go_loopw [9] (fun jv wx => ∃ (j : Nat) (S1 S2 : List Fld), Hid (j = a + S1.length) ∧ Hid (T = S1 ++ S2) ∧ Hid (∀ s ∈ S2, ltF x s = true) ∧ jv = .int .i64 j ∧ Aside g g w wx ∧ FRow w0 d wx g (pre ++ (S1 ++ x :: (S2 ++ L.drop (k + 1))) ++ post)) (fun jv _ => (intOf jv).toNat)
      case atStart =>
        refine ⟨i, T, [], Lib.hid (by rw [HLEN.out]; exact HIK.out), Lib.hid (by simp), Lib.hid (by simp), rfl, HAS.out, ?_⟩
        have := HROW.out
        rw [HD.out] at this
        exact this
      case round =>
        obtain ⟨j, S1, S2, HJS, HS, HS2, rfl, has, hrow⟩ := hrel
        have HAS2 := Lib.hid has
        have HLS := Lib.hid (show S1.length ≤ k by have := HLEN.out; rw [HS.out] at this; simp at this; omega)
        have hls := HLS.out
        have HROW2 := Lib.hid hrow
        cases hl : S1.getLast? with
        | none =>
          rw [List.getLast?_eq_none_iff] at hl
          subst hl
          obtain rfl : j = a := by have := HJS.out; simpa using this
          have HG := Lib.hid (ins_done [] S2 x (by rw [← HS.out]; exact HSRT.out) HS2.out (fun s hs => by cases hs))
          have hdec : decide ((j : Int) < (j : Int)) = false := by simp
          clear has hrow
          go_upto_region 4 with fail
          go_quiet (fail)
          go_wp2_with fail
          refine ⟨⟨i + 1, k + 1, Lib.hid (by have := HIK.out; omega), by omega, .inl (by omega), by go_num, HAS2.out.trans (Aside.of (below_drewN (Below.refl _ _) _)), ?_⟩, by simp [intOf]; omega⟩
          rw [HT.out, HS.out, HG.out]
          have := HROW2.out.below (below_drewN (Below.refl _ _) nq)
          simpa using this
        | some s =>
          obtain ⟨S1', rfl⟩ := List.getLast?_eq_some_iff.1 hl
          obtain ⟨p, hp⟩ : ∃ p, (pre ++ S1').length = p := ⟨_, rfl⟩
          have hj : j = p + 1 := by rw [HJS.out, ← hp, ← HA.out]; simp [Nat.add_assoc]
          have hl1 : (S1' ++ [s]).length = S1'.length + 1 := by simp
          have HPS := Lib.hid (show a + S1'.length = p by rw [← hp, ← HA.out]; simp)
          have haj : a < j := by have := HJS.out; omega
          have hE : pre ++ ((S1' ++ [s]) ++ x :: (S2 ++ L.drop (k + 1))) ++ post = (pre ++ S1') ++ s :: ([] ++ x :: ((S2 ++ L.drop (k + 1)) ++ post)) := by simp
          rw [hE] at hrow
          obtain ⟨x0, x1, x2, x3, x4, x5, x6, x7, x8, ⟨f0, f1, f2, f3, f4, f5⟩, hlx⟩ := hrow.cell p s (by rw [← hp]; exact get_mid _ _ _)
          obtain ⟨y0, y1, y2, y3, y4, y5, y6, y7, y8, ⟨g0, g1, g2, g3, g4, g5⟩, hly⟩ := hrow.cell j x (by rw [hj, ← hp, show (pre ++ S1').length + 1 = ((pre ++ S1') ++ [s]).length by simp [Nat.add_assoc], show (pre ++ S1') ++ s :: ([] ++ x :: ((S2 ++ L.drop (k + 1)) ++ post)) = ((pre ++ S1') ++ [s]) ++ x :: ((S2 ++ L.drop (k + 1)) ++ post) by simp]; exact get_mid _ _ _)
          have HSWP := Lib.hid (fun W (hb : Below wr.heap.size wr W) => swap_two (w := W) (pre ++ S1') [] ((S2 ++ L.drop (k + 1)) ++ post) s x p j hp (by simp [hj]) (hrow.below hb) _ _ _ _ _ _ _ _ _ _ _ _ hlx hly)
          have HGL := Lib.hid hrow.lt
          have HFZ := Lib.hid (fun W (hb : Below wr.heap.size wr W) => (hrow.below hb).frozen)
          have HSW := Lib.hid (fun (W' : World) (h : Below wr.heap.size wr W') => (show W'.cell? ⟨g, j * 6, none⟩ = some (.string x.name) ∧ W'.cell? ⟨g, j * 6 + 1, none⟩ = some (.int .i64 y0) ∧ W'.cell? ⟨g, j * 6 + 2, none⟩ = some (.string y1) ∧ W'.cell? ⟨g, j * 6 + 3, none⟩ = some (.string y2) ∧ W'.cell? ⟨g, j * 6 + 4, none⟩ = some (.slice y3 y4 y5) ∧ W'.cell? ⟨g, j * 6 + 5, none⟩ = some (.slice y6 y7 y8) ∧ W'.cell? ⟨g, p * 6, none⟩ = some (.string s.name) ∧ W'.cell? ⟨g, p * 6 + 1, none⟩ = some (.int .i64 x0) ∧ W'.cell? ⟨g, p * 6 + 2, none⟩ = some (.string x1) ∧ W'.cell? ⟨g, p * 6 + 3, none⟩ = some (.string x2) ∧ W'.cell? ⟨g, p * 6 + 4, none⟩ = some (.slice x3 x4 x5) ∧ W'.cell? ⟨g, p * 6 + 5, none⟩ = some (.slice x6 x7 x8) from ⟨cell_on h g0, cell_on h g1, cell_on h g2, cell_on h g3, cell_on h g4, cell_on h g5, cell_on h f0, cell_on h f1, cell_on h f2, cell_on h f3, cell_on h f4, cell_on h f5⟩))
          have HCM := Lib.hid (clo55_any wr.drew x.name s.name y0 x0 y1 y2 x1 x2 y3 y6 x3 x6 y4 y5 y7 y8 x4 x5 x7 x8)
          have hw1 : IntKind.i64.wrap ((j : Int) - 1) = (p : Int) := by rw [IntWalk.i64_left, IntWalk.wrap64_in _ (by have := HJS.out; omega)]; omega
          have hap : (a : Int) < (j : Int) := by omega
          have hpn : (j : Int) < (n : Int) := by have := HJS.out; omega
          have hp0 : (0 : Int) ≤ (j : Int) := by omega
          have hp1 : (0 : Int) ≤ (p : Int) := by omega
          have hp2 : (p : Int) < (n : Int) := by have := HJS.out; omega
          have hpj : p < j := by omega
          have HJ := Lib.hid hj
          clear hj
          clear has hrow hE hl f0 g0 f1 g1 f2 g2 f3 g3 f4 g4 f5 g5
          obtain ⟨ci, hci⟩ : ∃ ci, cmpI x.name s.name = ci := ⟨_, rfl⟩
          have hcn := cmpI_neg x.name s.name
          rw [hci] at HCM hcn
          have HCN := Lib.hid hcn
          clear hci hcn
          by_cases hneg : ci < 0
          · have HLT := Lib.hid (show ltF x s = true by have := HCN.out; rw [eq_iff_iff] at this; exact this.1 hneg)
            go_upto_region 4 with fail
            go_region_held3 (fun w' => w'.cell? ⟨g, j * 6, none⟩ = some (.string x.name) ∧ w'.cell? ⟨g, j * 6 + 1, none⟩ = some (.int .i64 y0) ∧ w'.cell? ⟨g, j * 6 + 2, none⟩ = some (.string y1) ∧ w'.cell? ⟨g, j * 6 + 3, none⟩ = some (.string y2) ∧ w'.cell? ⟨g, j * 6 + 4, none⟩ = some (.slice y3 y4 y5) ∧ w'.cell? ⟨g, j * 6 + 5, none⟩ = some (.slice y6 y7 y8) ∧ w'.cell? ⟨g, p * 6, none⟩ = some (.string s.name) ∧ w'.cell? ⟨g, p * 6 + 1, none⟩ = some (.int .i64 x0) ∧ w'.cell? ⟨g, p * 6 + 2, none⟩ = some (.string x1) ∧ w'.cell? ⟨g, p * 6 + 3, none⟩ = some (.string x2) ∧ w'.cell? ⟨g, p * 6 + 4, none⟩ = some (.slice x3 x4 x5) ∧ w'.cell? ⟨g, p * 6 + 5, none⟩ = some (.slice x6 x7 x8)) (first | exact HSW.out _ (Below.refl _ _).drew | exact HSW.out _ HB7.out) (first | (go_at_call 55; refine HCM.out.mono ?_; rintro e w7 ⟨rfl, hb7⟩; have HB7 : Hid (Below wr.heap.size wr w7) := Lib.hid (below_drew hb7); clear hb7))
            go_upto_region 6 with fail
            obtain ⟨g0, g1, g2, g3, g4, g5, f0, f1, f2, f3, f4, f5⟩ := HSW.out _ HB7.out
            have fz := HFZ.out _ HB7.out
            have hgl := Nat.lt_of_lt_of_le HGL.out HB7.out.size
            go_region
            go_wp2_with fail
            refine ⟨⟨p, S1', s :: S2, Lib.hid HPS.out.symm, Lib.hid (by rw [HS.out]; simp), Lib.hid (fun z hz => ?_), rfl, ?_, ?_⟩, by simp [intOf]; omega⟩
            · rcases List.mem_cons.1 hz with rfl | hz
              · exact HLT.out
              · exact HS2.out z hz
            · exact (((HAS2.out.trans (Aside.of HB7.out)).six _ _ _ _ _ _ _).six _ _ _ _ _ _ _).drew
            · have h2 := ((HSWP.out _ HB7.out).2).below (Below.refl _ _).drew
              have e : pre ++ (S1' ++ x :: ((s :: S2) ++ L.drop (k + 1))) ++ post = (pre ++ S1') ++ x :: ([] ++ s :: ((S2 ++ L.drop (k + 1)) ++ post)) := by simp
              rw [e]
              exact h2
          · have hxs : ltF x s = false := by
              cases h : ltF x s with
              | false => rfl
              | true => exact absurd (by have := HCN.out; rw [eq_iff_iff] at this; exact this.2 h) hneg
            have HG := Lib.hid (ins_done (S1' ++ [s]) S2 x (by rw [← HS.out]; exact HSRT.out) HS2.out (fun z hz => by rw [List.getLast?_append] at hz; simp at hz; rw [← hz]; exact hxs))
            clear hxs
            go_upto_region 4 with fail
            go_region_held3 (fun w' => w'.cell? ⟨g, j * 6, none⟩ = some (.string x.name) ∧ w'.cell? ⟨g, j * 6 + 1, none⟩ = some (.int .i64 y0) ∧ w'.cell? ⟨g, j * 6 + 2, none⟩ = some (.string y1) ∧ w'.cell? ⟨g, j * 6 + 3, none⟩ = some (.string y2) ∧ w'.cell? ⟨g, j * 6 + 4, none⟩ = some (.slice y3 y4 y5) ∧ w'.cell? ⟨g, j * 6 + 5, none⟩ = some (.slice y6 y7 y8) ∧ w'.cell? ⟨g, p * 6, none⟩ = some (.string s.name) ∧ w'.cell? ⟨g, p * 6 + 1, none⟩ = some (.int .i64 x0) ∧ w'.cell? ⟨g, p * 6 + 2, none⟩ = some (.string x1) ∧ w'.cell? ⟨g, p * 6 + 3, none⟩ = some (.string x2) ∧ w'.cell? ⟨g, p * 6 + 4, none⟩ = some (.slice x3 x4 x5) ∧ w'.cell? ⟨g, p * 6 + 5, none⟩ = some (.slice x6 x7 x8)) (first | exact HSW.out _ (Below.refl _ _).drew | exact HSW.out _ HB7.out) (first | (go_at_call 55; refine HCM.out.mono ?_; rintro e w7 ⟨rfl, hb7⟩; have HB7 : Hid (Below wr.heap.size wr w7) := Lib.hid (below_drew hb7); clear hb7))
            go_wp2_with fail
            refine ⟨⟨i + 1, k + 1, Lib.hid (by have := HIK.out; omega), by omega, .inl (by omega), by go_num, HAS2.out.trans (Aside.of HB7.out), ?_⟩, by simp [intOf]; omega⟩
            rw [HT.out, HS.out, HG.out]
            have := HROW2.out.below HB7.out
            simpa using this
    · have hlt : ¬ k < L.length := fun h => hilt (hib.2 h)
      clear hib
      have HE := Lib.hid (show pre ++ (isort ltF (L.take k) ++ L.drop k) ++ post = pre ++ isort ltF L ++ post by rw [List.take_of_length_le (by omega), List.drop_eq_nil_of_le (by omega)]; simp)
      go_wp2_with fail
      go_end0
      refine ⟨⟨_, rfl⟩, ?_, HAS.out⟩
      rw [← HE.out]
      exact HROW.out
end Go.Proofs.Ytcelpmojhjnggaa

/- Fields are put in order: two rows change places. -/
namespace Go.Proofs.Ytcelpmojhjnggaa
open Go Go.RowKit Go.Sort Go.Deep KindsP
set_option maxHeartbeats 4000000
set_option maxRecDepth 100000

theorem list_at {α : Type} (X : List α) (i : Nat) (x : α) (h : X[i]? = some x) : X.drop i = x :: X.drop (i + 1) ∧ X.take (i + 1) = X.take i ++ [x] := by
  obtain ⟨hi, rfl⟩ := List.getElem?_eq_some_iff.1 h
  exact ⟨List.drop_eq_getElem_cons hi, by rw [List.take_add_one, List.getElem?_eq_getElem hi]; rfl⟩
theorem swap81_any (d : Nat) (w0 w : World) (g n c a b m : Nat) (P X M Y Q : List Fld) (hP : P.length = a) (hX : X.length = m) (hY : Y.length = m) (hb : b = a + m + M.length) (hnm : n ≤ 1000000000) (hn : b + m ≤ n) (hr : FRow w0 d w g (P ++ X ++ M ++ Y ++ Q)) :
    Calls Try.prog 81 #[.slice (some ⟨g, 0, none⟩) n c, .int .i64 a, .int .i64 b, .int .i64 m, fCmp] w (TurnPost w0 d w g (P ++ Y ++ M ++ X ++ Q)) := by
  have HR := Lib.hid hr
  have HP := Lib.hid hP
  have HX := Lib.hid hX
  have HY := Lib.hid hY
  have HB := Lib.hid hb
  have hab : a + m ≤ b := by omega
  clear hr hP hX hY hb
  go_enter Try.func81, Try.ntmps81
  go_wp2_with fail
  go_loopw [10] (fun iv wr => ∃ i : Nat, i ≤ m ∧ iv = .int .i64 i ∧ Aside g g w wr ∧ FRow w0 d wr g (P ++ (Y.take i ++ X.drop i) ++ M ++ (X.take i ++ Y.drop i) ++ Q)) (fun iv _ => m - (intOf iv).toNat)
  case atStart => exact ⟨0, by omega, rfl, Aside.refl _ _ _, by simpa using HR.out⟩
  case round =>
    obtain ⟨i, him, rfl, has, hrow⟩ := hrel
    have HAS := Lib.hid has
    by_cases hlt : i < m
    · obtain ⟨x, hx⟩ : ∃ x, X[i]? = some x := ⟨_, List.getElem?_eq_getElem (by have := HX.out; omega)⟩
      obtain ⟨y, hy⟩ : ∃ y, Y[i]? = some y := ⟨_, List.getElem?_eq_getElem (by have := HY.out; omega)⟩
      obtain ⟨dX, tX⟩ := list_at X i x hx
      obtain ⟨dY, tY⟩ := list_at Y i y hy
      have lY : (Y.take i).length = i := by rw [List.length_take]; have := HY.out; omega
      have lX : (X.take i).length = i := by rw [List.length_take]; have := HX.out; omega
      have lX2 : (X.drop (i + 1)).length = m - (i + 1) := by rw [List.length_drop, HX.out]
      have hE : P ++ (Y.take i ++ X.drop i) ++ M ++ (X.take i ++ Y.drop i) ++ Q = (P ++ Y.take i) ++ x :: ((X.drop (i + 1) ++ M ++ X.take i) ++ y :: (Y.drop (i + 1) ++ Q)) := by rw [dX, dY]; simp
      have HE2 := Lib.hid (show P ++ (Y.take (i + 1) ++ X.drop (i + 1)) ++ M ++ (X.take (i + 1) ++ Y.drop (i + 1)) ++ Q = (P ++ Y.take i) ++ y :: ((X.drop (i + 1) ++ M ++ X.take i) ++ x :: (Y.drop (i + 1) ++ Q)) by rw [tX, tY]; simp)
      rw [hE] at hrow
      obtain ⟨p, hp⟩ : ∃ p, (P ++ Y.take i).length = p := ⟨_, rfl⟩
      obtain ⟨q, hq⟩ : ∃ q, q = p + 1 + (X.drop (i + 1) ++ M ++ X.take i).length := ⟨_, rfl⟩
      have hpa : p = a + i := by rw [← hp, List.length_append, lY, HP.out]
      have hqb : q = b + i := by rw [hq, hpa, List.length_append, List.length_append, lX, lX2, HB.out]; omega
      obtain ⟨x0, x1, x2, x3, x4, x5, x6, x7, x8, ⟨f0, f1, f2, f3, f4, f5⟩, hlx⟩ := hrow.cell p x (by rw [← hp]; exact get_mid _ _ _)
      obtain ⟨y0, y1, y2, y3, y4, y5, y6, y7, y8, ⟨g0, g1, g2, g3, g4, g5⟩, hly⟩ := hrow.cell q y (by
        rw [hq, ← hp, show (P ++ Y.take i).length + 1 + (X.drop (i + 1) ++ M ++ X.take i).length = ((P ++ Y.take i) ++ x :: (X.drop (i + 1) ++ M ++ X.take i)).length by simp <;> omega, show (P ++ Y.take i) ++ x :: ((X.drop (i + 1) ++ M ++ X.take i) ++ y :: (Y.drop (i + 1) ++ Q)) = ((P ++ Y.take i) ++ x :: (X.drop (i + 1) ++ M ++ X.take i)) ++ y :: (Y.drop (i + 1) ++ Q) by simp]
        exact get_mid _ _ _)
      have HSWP := Lib.hid (swap_two (P ++ Y.take i) (X.drop (i + 1) ++ M ++ X.take i) (Y.drop (i + 1) ++ Q) x y p q hp hq hrow _ _ _ _ _ _ _ _ _ _ _ _ hlx hly)
      have hgl := hrow.lt
      have fz := hrow.frozen
      have hw1 : IntKind.i64.wrap ((a : Int) + (i : Int)) = (p : Int) := by rw [IntWalk.i64_left, IntWalk.wrap64_in _ (by omega)]; omega
      have hw2 : IntKind.i64.wrap ((b : Int) + (i : Int)) = (q : Int) := by rw [IntWalk.i64_left, IntWalk.wrap64_in _ (by omega)]; omega
      have hpq : p < q := by omega
      have hp0 : (0 : Int) ≤ (p : Int) := by omega
      have hp1 : (p : Int) < (n : Int) := by omega
      have hq0 : (0 : Int) ≤ (q : Int) := by omega
      have hq1 : (q : Int) < (n : Int) := by omega
      clear has hrow hE hx hy dX tX dY tY lY lX lX2 hp hq hpa hqb hlx hly
      go_upto_region 3 with fail
      go_region
      go_wp2_with fail
      refine ⟨⟨i + 1, by omega, by go_num, ((HAS.out.six _ _ _ _ _ _ _).six _ _ _ _ _ _ _).drew, ?_⟩, by simp [intOf]; omega⟩
      rw [HE2.out]
      exact HSWP.out.1.below (Below.refl _ _).drew
    · obtain rfl : i = m := by omega
      have HROW := Lib.hid hrow
      clear has hrow
      go_wp2_with fail
      go_end0
      refine ⟨⟨_, rfl⟩, ?_, HAS.out⟩
      have := HROW.out
      rw [List.take_of_length_le (by rw [HY.out]; exact Nat.le_refl _), List.drop_eq_nil_of_le (by rw [HX.out]; exact Nat.le_refl _), List.take_of_length_le (by rw [HX.out]; exact Nat.le_refl _), List.drop_eq_nil_of_le (by rw [HY.out]; exact Nat.le_refl _)] at this
      simpa using this
end Go.Proofs.Ytcelpmojhjnggaa
