/- The walks of one and of Lex. -/
import Derived.Test.YthmhbhlkbihdbaaA6
import Derived.Test.YthmhbhlkbihdbaaA7
import Derived.Test.YthmhbhlkbihdbaaA8
namespace Go.Proofs.Ythmhbhlkbihdbaa
open Go.RowKit LexP

theorem OneP.bool {w : World} {R : Nat} {s : ByteArray} {p n : Nat} {xs : List Value} {o : Option Tk} {e : Ending} {w' : World} (h : OneP w R s p n xs o e w') : ∃ b, e = .returned (.bool b) := by
  cases o with
  | none => exact ⟨_, h.1⟩
  | some t => exact ⟨_, h.1⟩
theorem OneP.base {w : World} {R : Nat} {s : ByteArray} {p n : Nat} {xs : List Value} {o : Option Tk} {e : Ending} {w' : World} (k : Nat) (h : OneP (w.drewN k) R s p n xs o e w') : OneP w R s p n xs o e w' := by
  cases o with
  | none => exact ⟨h.1, h.2.base⟩
  | some t => exact ⟨h.1, h.2.base⟩

theorem nextL_at (s : ByteArray) (p : Nat) (h : p < s.size) : nextL (s.data.toList.drop p) =
    if letterI s[p].toNat then wordT (s.data.toList.drop p) else if digitI s[p].toNat then numR (s.data.toList.drop p)
    else if (s[p].toNat : Int) == 34 then quoteT (s.data.toList.drop p) else signT (s.data.toList.drop p) := by
  rw [drop_at s p h]; rfl

set_option maxRecDepth 100000 in
set_option maxHeartbeats 1000000 in
theorem one_any (R : Nat) (s : ByteArray) (p : Nat) (tv : Value) (n : Nat) (xs : List Value) (w : World) (hs : s.size ≤ 100000) (hp : p < s.size) (hn : n ≤ 100000)
    (hr : Rd w R s p tv) (hown : w.ownsRow (R + 1) 31 4 tv n xs) :
    Calls Try.prog 21 #[.pointer (some ⟨R, 0, none⟩)] w (OneP w R s p n xs (nextL (s.data.toList.drop p))) := by
  have h0 := hr.c0
  have h1 := hr.c1
  have HR := Lib.hid hr
  have HO := Lib.hid hown
  have hs' : s.size ≤ maxLen := by unfold maxLen; omega
  have HN := Lib.hid (nextL_at s p hp)
  clear hr hown
  go_enter Try.func21, Try.ntmps21
  go_wp2_with (first | go_quiet (fail) | (go_at_call 24; refine (letter_any _ _).mono ?_; rintro e w' ⟨rfl, rfl⟩) | (go_at_call 29; refine (digit_any _ _).mono ?_; rintro e w' ⟨rfl, rfl⟩) | (go_at_call 28; refine (wordR_any R s p tv n xs _ hs' (by omega) hn (HR.out.drew _) HO.out).mono ?_; intro e w1 hq; have HQ := Lib.hid hq; obtain ⟨b, rfl⟩ := hq.bool; clear hq) | (go_at_call 30; refine (numberR_any R s p tv n xs _ hs' (by omega) hn (HR.out.drew _) HO.out).mono ?_; intro e w1 hq; have HQ := Lib.hid hq; obtain ⟨b, rfl⟩ := hq.bool; clear hq) | (go_at_call 31; refine (textR_any R s p tv n xs _ hs hp hn (HR.out.drew _) HO.out).mono ?_; intro e w1 hq; have HQ := Lib.hid hq; obtain ⟨b, rfl⟩ := hq.bool; clear hq) | (go_at_call 32; refine (signR_any R s p tv n xs _ hs' hp hn (HR.out.drew _) HO.out).mono ?_; intro e w1 hq; have HQ := Lib.hid hq; obtain ⟨b, rfl⟩ := hq.bool; clear hq))
  all_goals go_ret
  all_goals rw [HN.out]
  · rw [if_pos (by simp [*])]; exact HQ.out.base
  · rw [if_neg (by simp [*]), if_pos (by simp [*])]; exact HQ.out.base
  · rw [if_neg (by simp [*]), if_neg (by simp [*]), if_pos (by assumption)]; exact HQ.out.base
  · rw [if_neg (by simp [*]), if_neg (by simp [*]), if_neg (by rw [show ((s[p].toNat : Int) == 34) = false by assumption]; simp)]; exact HQ.out.base
end Go.Proofs.Ythmhbhlkbihdbaa
