/- The walks of word and sign. -/
import Derived.Test.YthmhbhlkbihdbaaA4
import Derived.Deep.DeepFit
namespace Go.Proofs.Ythmhbhlkbihdbaa
open Go.RowKit LexP

/-- what a reader of one token comes to -/
def OneP (w : World) (R : Nat) (s : ByteArray) (p n : Nat) (xs : List Value) (o : Option Tk) (e : Ending) (w' : World) : Prop :=
  match o with
  | some t => e = .returned (.bool true) ∧ Rds R w R s (p + t.len) (n + 1) (xs ++ tokC ⟨t.kind, t.text, t.n, p⟩) w'
  | none => e = .returned (.bool false) ∧ Rds R w R s p n xs w'

theorem Rds.base {B : Nat} {w w' : World} {R : Nat} {s : ByteArray} {q n : Nat} {xs : List Value} (k : Nat) (h : Rds B (w.drewN k) R s q n xs w') : Rds B w R s q n xs w' := by
  obtain ⟨tv, h1, h2, h3⟩ := h
  exact ⟨tv, h1, h2, ⟨h3.os, h3.tape, h3.output, h3.size, h3.block⟩⟩

theorem extract_mk (s : ByteArray) (a b : Nat) : s.extract a b = ⟨((s.data.toList.drop a).take (b - a)).toArray⟩ := by
  apply ByteArray.ext
  apply Array.ext'
  rw [Lib.extract_data]
theorem extract_end (s : ByteArray) (a : Nat) : (s.extract a s.size).data.toList = s.data.toList.drop a := by
  rw [Lib.extract_data, List.take_of_length_le (by simp)]
theorem extract_mid (s : ByteArray) (a n : Nat) : (s.extract a (a + n)).data.toList = (s.data.toList.drop a).take n := by
  rw [Lib.extract_data, Nat.add_sub_cancel_left]
theorem wrun_le (l : List UInt8) : wrun l ≤ l.length := by
  induction l with
  | nil => simp [wrun]
  | cons c r ih => rw [wrun]; split <;> simp <;> omega

def wordT (l : List UInt8) : Option Tk :=
  if wordL (l.take (wrun l)) then some ⟨2, wrun l, l.take (wrun l), 0⟩
  else if decide (wrun l ≤ 16) then some ⟨1, wrun l, l.take (wrun l), 0⟩ else none

set_option maxRecDepth 100000 in
set_option maxHeartbeats 2000000 in
theorem wordR_any (R : Nat) (s : ByteArray) (p : Nat) (tv : Value) (n : Nat) (xs : List Value) (w : World) (hs : s.size ≤ maxLen) (hp : p ≤ s.size) (hn : n ≤ 100000)
    (hr : Rd w R s p tv) (hown : w.ownsRow (R + 1) 31 4 tv n xs) :
    Calls Try.prog 28 #[.pointer (some ⟨R, 0, none⟩)] w (OneP w R s p n xs (wordT (s.data.toList.drop p))) := by
  unfold maxLen at hs
  have h0 := hr.c0
  have h1 := hr.c1
  have HR := Lib.hid hr
  have HO := Lib.hid hown
  clear hr hown
  go_enter Try.func28, Try.ntmps28
  go_wp2_with fail
  go_quiet ((go_at_call 25; exact Calls.quiet_of_same ((run_any _ _ (by unfold maxLen; simp; omega)).mono fun _ _ ⟨a, b⟩ => ⟨a, b.symm⟩)))
  generalize hm : wrun (s.extract p s.size).data.toList = m
  rw [extract_end] at hm
  have hml := wrun_le (s.data.toList.drop p)
  rw [hm] at hml
  have hmle : p + m ≤ s.size := by simp at hml; omega
  have HM := Lib.hid hm
  clear hm hml
  have hwr : IntKind.i64.wrap ((p : Int) + (m : Int)) = (p : Int) + (m : Int) := IntWalk.i64_in _ (by omega)
  have hnn : 0 ≤ (p : Int) + (m : Int) := by omega
  have htn : ((p : Int) + (m : Int)).toNat = p + m := by omega
  have hlt2 : (p : Int) + (m : Int) ≤ (s.size : Int) := by omega
  go_wp2_with (go_quiet (fail))
  refine (word_any _ _).mono ?_
  rintro e w1 ⟨rfl, rfl⟩
  generalize hb : wordL (s.extract p (p + m)).data.toList = b
  rw [extract_mid, ← HM.out] at hb
  have HB := Lib.hid hb
  clear hb hwr hnn htn hlt2
  have ex := extract_mk s p (p + m)
  rw [Nat.add_sub_cancel_left] at ex
  have EX := Lib.hid ex
  clear ex
  cases b
  · by_cases h16 : m ≤ 16
    · go_wp2_with fail
      refine (put_any R s p tv n xs 1 m _ 0 _ (by unfold maxLen; omega) hn (HR.out.drew _) HO.out).mono ?_
      rintro e w1 ⟨rfl, hw1⟩
      go_wp2
      go_ret
      rw [wordT, HB.out, HM.out, decide_eq_true h16]
      refine ⟨rfl, ?_⟩
      have := hw1.base
      rw [EX.out] at this
      exact this
    · go_wp2
      go_ret
      rw [wordT, HB.out, HM.out, decide_eq_false h16]
      exact ⟨rfl, tv, HR.out, HO.out, below_drewN (Below.refl _ _) _⟩
  · go_wp2_with fail
    refine (put_any R s p tv n xs 2 m _ 0 _ (by unfold maxLen; omega) hn (HR.out.drew _) HO.out).mono ?_
    rintro e w1 ⟨rfl, hw1⟩
    go_wp2
    go_ret
    rw [wordT, HB.out, HM.out]
    refine ⟨rfl, ?_⟩
    have := hw1.base
    rw [EX.out] at this
    exact this
theorem put_int (R : Nat) (s : ByteArray) (p : Nat) (tv : Value) (n : Nat) (xs : List Value) (k : Int) (ln : Int) (text : ByteArray) (v : Int) (w : World) (h0 : 0 ≤ ln) (hp : p + ln.toNat ≤ maxLen) (hn : n ≤ 100000)
    (hr : Rd w R s p tv) (hown : w.ownsRow (R + 1) 31 4 tv n xs) :
    Calls Try.prog 22 #[.pointer (some ⟨R, 0, none⟩), .int .i64 k, .int .i64 ln, .string text, .int .i64 v] w fun e w' => e = .returned (.tuple #[]) ∧
      Rds R w R s (p + ln.toNat) (n + 1) (xs ++ [.int .i64 k, .string text, .int .i64 v, .int .i64 p]) w' := by
  obtain ⟨m, rfl⟩ := Int.eq_ofNat_of_zero_le h0
  exact put_any R s p tv n xs k m text v w hp hn hr hown

end Go.Proofs.Ythmhbhlkbihdbaa
