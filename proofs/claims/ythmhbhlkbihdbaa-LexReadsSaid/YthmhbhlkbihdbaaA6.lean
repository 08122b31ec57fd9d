/- The walk of sign. -/
import Derived.Test.YthmhbhlkbihdbaaA5
import Derived.Deep.Cut
import Derived.Deep.DeepCutAuto
namespace Go.Proofs.Ythmhbhlkbihdbaa
open Go.RowKit LexP

def signT (l : List UInt8) : Option Tk := if signN l = 0 then none else some ⟨5, signN l, l.take (signN l), 0⟩

theorem ex_head (s : ByteArray) (p : Nat) (h : p < s.size) (h' : 0 < (s.extract p s.size).size) : (s.extract p s.size)[0] = s[p] := by
  simp [ByteArray.getElem_extract]
theorem take2_L (s : ByteArray) (p : Nat) : ((s.extract p s.size).extract 0 2).toList = (s.data.toList.drop p).take 2 := by
  rw [Lib.extract_toList, extract_end]; rfl
theorem signN_two (s : ByteArray) (p : Nat) (h : p + 1 < s.size) (h2 : twoL ((s.extract p s.size).extract 0 2).toList = true) : signN (s.data.toList.drop p) = 2 := by
  rw [take2_L] at h2
  have hl : 1 < (s.data.toList.drop p).length := by simp; omega
  rw [drop_at s p (by omega)] at h2 hl ⊢
  rw [signN, if_pos (by rw [h2, decide_eq_true hl]; rfl)]
theorem signN_not (s : ByteArray) (p : Nat) (h : p < s.size) (h2 : p + 1 < s.size → twoL ((s.extract p s.size).extract 0 2).toList = false) : signN (s.data.toList.drop p) = if oneI s[p].toNat then 1 else 0 := by
  have hl : ¬ (decide (1 < (s.data.toList.drop p).length) && twoL ((s.data.toList.drop p).take 2)) = true := by
    by_cases h3 : p + 1 < s.size
    · have := h2 h3; rw [take2_L] at this; rw [this]; simp
    · have : ¬ 1 < (s.data.toList.drop p).length := by simp; omega
      rw [decide_eq_false this]; simp
  rw [drop_at s p h] at hl ⊢
  rw [signN, if_neg hl]
theorem pre_mk (s : ByteArray) (p m : Nat) : (s.extract p s.size).extract 0 m = ⟨((s.data.toList.drop p).take m).toArray⟩ := by rw [extract_mk, extract_end]; rfl

set_option maxRecDepth 100000 in
set_option maxHeartbeats 4000000 in
theorem signR_two (R : Nat) (s : ByteArray) (p : Nat) (tv : Value) (n : Nat) (xs : List Value) (w : World) (hs : s.size ≤ maxLen) (_hp : p < s.size) (hn : n ≤ 100000)
    (hr : Rd w R s p tv) (hown : w.ownsRow (R + 1) 31 4 tv n xs)
    (h2 : p + 1 < s.size) (htwo : twoL ((s.extract p s.size).extract 0 2).toList = true) :
    Calls Try.prog 32 #[.pointer (some ⟨R, 0, none⟩)] w (OneP w R s p n xs (signT (s.data.toList.drop p))) := by
  unfold maxLen at hs
  have h0 := hr.c0
  have h1 := hr.c1
  have HR := Lib.hid hr
  have HO := Lib.hid hown
  clear hr hown
  have HS := Lib.hid (signN_two s p h2 htwo)
  simp only [twoL, Bool.or_eq_true, beq_iff_eq] at htwo
  rcases htwo with (((((h|h)|h)|h)|h)|h)|h
  all_goals
        go_enter Try.func32, Try.ntmps32
        go_wp2_with (go_quiet (fail))
        refine (put_int R s p tv n xs _ _ _ _ _ (by omega) (by unfold maxLen; simp; omega) hn (HR.out.drew _) HO.out).mono ?_
        rintro e w1 ⟨rfl, hw1⟩
        go_wp2
        go_ret
        rw [signT, HS.out]
        refine ⟨rfl, ?_⟩
        have hz := hw1.base
        rw [pre_mk] at hz
        exact hz

set_option maxRecDepth 100000 in
set_option maxHeartbeats 4000000 in
theorem signR_a (R : Nat) (s : ByteArray) (p : Nat) (tv : Value) (n : Nat) (xs : List Value) (w : World) (hs : s.size ≤ maxLen) (hp : p < s.size) (hn : n ≤ 100000)
    (hr : Rd w R s p tv) (hown : w.ownsRow (R + 1) 31 4 tv n xs)
    (h2 : p + 1 < s.size) (htwo : twoL ((s.extract p s.size).extract 0 2).toList = false) (hone : oneI s[p].toNat = true) :
    Calls Try.prog 32 #[.pointer (some ⟨R, 0, none⟩)] w (OneP w R s p n xs (signT (s.data.toList.drop p))) := by
  unfold maxLen at hs
  have h0 := hr.c0
  have h1 := hr.c1
  have HR := Lib.hid hr
  have HO := Lib.hid hown
  clear hr hown
  have HS := Lib.hid (show signN (s.data.toList.drop p) = 1 by rw [signN_not s p hp (fun _ => htwo), hone]; rfl)
  simp only [twoL, Bool.or_eq_false_iff] at htwo
  obtain ⟨⟨⟨⟨⟨⟨e1, e2⟩, e3⟩, e4⟩, e5⟩, e6⟩, e7⟩ := htwo
  have hc0 : (s.extract p s.size)[0]'(by simp; omega) = s[p] := ex_head s p hp _
  have HC := Lib.hid hc0
  clear hc0
  simp only [oneI, Bool.or_eq_true, beq_iff_eq] at hone
  rcases hone with ((((((((((((((((((h|h)|h)|h)|h)|h)|h)|h)|h)|h)|h)|h)|h)|h)|h)|h)|h)|h)|h)|h
  all_goals
        rw [← HC.out] at h
        go_enter Try.func32, Try.ntmps32
        go_wp2_with (go_quiet (fail))
        refine (put_int R s p tv n xs _ _ _ _ _ (by omega) (by unfold maxLen; simp; omega) hn (HR.out.drew _) HO.out).mono ?_
        rintro e w1 ⟨rfl, hw1⟩
        go_wp2
        go_ret
        rw [signT, HS.out]
        refine ⟨rfl, ?_⟩
        have hz := hw1.base
        rw [pre_mk] at hz
        exact hz

set_option maxRecDepth 100000 in
set_option maxHeartbeats 1000000 in
theorem signR_aNo (R : Nat) (s : ByteArray) (p : Nat) (tv : Value) (n : Nat) (xs : List Value) (w : World) (_hs : s.size ≤ maxLen) (hp : p < s.size) (_hn : n ≤ 100000)
    (hr : Rd w R s p tv) (hown : w.ownsRow (R + 1) 31 4 tv n xs)
    (h2 : p + 1 < s.size) (htwo : twoL ((s.extract p s.size).extract 0 2).toList = false) (hone : oneI s[p].toNat = false) :
    Calls Try.prog 32 #[.pointer (some ⟨R, 0, none⟩)] w (OneP w R s p n xs (signT (s.data.toList.drop p))) := by
  have _ := _hs
  have h0 := hr.c0
  have h1 := hr.c1
  have HR := Lib.hid hr
  have HO := Lib.hid hown
  clear hr hown
  have HS := Lib.hid (show signN (s.data.toList.drop p) = 0 by rw [signN_not s p hp (fun _ => htwo), hone]; rfl)
  simp only [twoL, Bool.or_eq_false_iff] at htwo
  obtain ⟨⟨⟨⟨⟨⟨e1, e2⟩, e3⟩, e4⟩, e5⟩, e6⟩, e7⟩ := htwo
  have hc0 : (s.extract p s.size)[0]'(by simp; omega) = s[p] := ex_head s p hp _
  rw [← hc0] at hone
  clear hc0
  simp only [oneI, Bool.or_eq_false_iff] at hone
  obtain ⟨⟨⟨⟨⟨⟨⟨⟨⟨⟨⟨⟨⟨⟨⟨⟨⟨⟨⟨f1, f2⟩, f3⟩, f4⟩, f5⟩, f6⟩, f7⟩, f8⟩, f9⟩, f10⟩, f11⟩, f12⟩, f13⟩, f14⟩, f15⟩, f16⟩, f17⟩, f18⟩, f19⟩, f20⟩ := hone
  go_enter Try.func32, Try.ntmps32
  go_wp2_with (go_quiet (fail))
  go_ret
  rw [signT, HS.out]
  exact ⟨rfl, tv, HR.out, HO.out, below_drewN (Below.refl _ _) _⟩

set_option maxRecDepth 100000 in
set_option maxHeartbeats 4000000 in
theorem signR_b (R : Nat) (s : ByteArray) (p : Nat) (tv : Value) (n : Nat) (xs : List Value) (w : World) (hs : s.size ≤ maxLen) (hp : p < s.size) (hn : n ≤ 100000)
    (hr : Rd w R s p tv) (hown : w.ownsRow (R + 1) 31 4 tv n xs)
    (h2 : p + 1 = s.size) (hone : oneI s[p].toNat = true) :
    Calls Try.prog 32 #[.pointer (some ⟨R, 0, none⟩)] w (OneP w R s p n xs (signT (s.data.toList.drop p))) := by
  unfold maxLen at hs
  have h0 := hr.c0
  have h1 := hr.c1
  have HR := Lib.hid hr
  have HO := Lib.hid hown
  clear hr hown
  have HS := Lib.hid (show signN (s.data.toList.drop p) = 1 by rw [signN_not s p hp (fun h => absurd h (by omega)), hone]; rfl)
  have hc0 : (s.extract p s.size)[0]'(by simp; omega) = s[p] := ex_head s p hp _
  have HC := Lib.hid hc0
  clear hc0
  simp only [oneI, Bool.or_eq_true, beq_iff_eq] at hone
  rcases hone with ((((((((((((((((((h|h)|h)|h)|h)|h)|h)|h)|h)|h)|h)|h)|h)|h)|h)|h)|h)|h)|h)|h
  all_goals
        rw [← HC.out] at h
        go_enter Try.func32, Try.ntmps32
        go_wp2_with (go_quiet (fail))
        refine (put_int R s p tv n xs _ _ _ _ _ (by omega) (by unfold maxLen; simp; omega) hn (HR.out.drew _) HO.out).mono ?_
        rintro e w1 ⟨rfl, hw1⟩
        go_wp2
        go_ret
        rw [signT, HS.out]
        refine ⟨rfl, ?_⟩
        have hz := hw1.base
        rw [pre_mk] at hz
        exact hz

set_option maxRecDepth 100000 in
set_option maxHeartbeats 1000000 in
theorem signR_bNo (R : Nat) (s : ByteArray) (p : Nat) (tv : Value) (n : Nat) (xs : List Value) (w : World) (hs : s.size ≤ maxLen) (hp : p < s.size) (_hn : n ≤ 100000)
    (hr : Rd w R s p tv) (hown : w.ownsRow (R + 1) 31 4 tv n xs)
    (h2 : p + 1 = s.size) (hone : oneI s[p].toNat = false) :
    Calls Try.prog 32 #[.pointer (some ⟨R, 0, none⟩)] w (OneP w R s p n xs (signT (s.data.toList.drop p))) := by
  unfold maxLen at hs
  have h0 := hr.c0
  have h1 := hr.c1
  have HR := Lib.hid hr
  have HO := Lib.hid hown
  clear hr hown
  have HS := Lib.hid (show signN (s.data.toList.drop p) = 0 by rw [signN_not s p hp (fun h => absurd h (by omega)), hone]; rfl)
  have hc0 : (s.extract p s.size)[0]'(by simp; omega) = s[p] := ex_head s p hp _
  rw [← hc0] at hone
  clear hc0
  simp only [oneI, Bool.or_eq_false_iff] at hone
  obtain ⟨⟨⟨⟨⟨⟨⟨⟨⟨⟨⟨⟨⟨⟨⟨⟨⟨⟨⟨f1, f2⟩, f3⟩, f4⟩, f5⟩, f6⟩, f7⟩, f8⟩, f9⟩, f10⟩, f11⟩, f12⟩, f13⟩, f14⟩, f15⟩, f16⟩, f17⟩, f18⟩, f19⟩, f20⟩ := hone
  go_enter Try.func32, Try.ntmps32
  go_wp2_with (go_quiet (fail))
  go_ret
  rw [signT, HS.out]
  exact ⟨rfl, tv, HR.out, HO.out, below_drewN (Below.refl _ _) _⟩

theorem signR_any (R : Nat) (s : ByteArray) (p : Nat) (tv : Value) (n : Nat) (xs : List Value) (w : World) (hs : s.size ≤ maxLen) (hp : p < s.size) (hn : n ≤ 100000)
    (hr : Rd w R s p tv) (hown : w.ownsRow (R + 1) 31 4 tv n xs) :
    Calls Try.prog 32 #[.pointer (some ⟨R, 0, none⟩)] w (OneP w R s p n xs (signT (s.data.toList.drop p))) := by
  by_cases h2 : p + 1 < s.size
  · cases h3 : twoL ((s.extract p s.size).extract 0 2).toList
    · cases h4 : oneI s[p].toNat
      · exact signR_aNo R s p tv n xs w hs hp hn hr hown h2 h3 h4
      · exact signR_a R s p tv n xs w hs hp hn hr hown h2 h3 h4
    · exact signR_two R s p tv n xs w hs hp hn hr hown h2 h3
  · cases h4 : oneI s[p].toNat
    · exact signR_bNo R s p tv n xs w hs hp hn hr hown (by omega) h4
    · exact signR_b R s p tv n xs w hs hp hn hr hown (by omega) h4

end Go.Proofs.Ythmhbhlkbihdbaa
