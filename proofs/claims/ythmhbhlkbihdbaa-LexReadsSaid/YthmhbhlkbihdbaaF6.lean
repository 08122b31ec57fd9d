/- The walk of the reference's next, all of it. -/
import Derived.Test.YthmhbhlkbihdbaaF5
namespace Go.Proofs.Ythmhbhlkbihdbaa
open Go.RowKit LexP

theorem zero_tok (w : World) (B : Nat) (_ : w.heap.size = B) : (w.alloc (.cells #[.int .i64 0, .string ⟨#[]⟩, .int .i64 0, .int .i64 0] 31)).heap[B]? = some (.cells #[.int .i64 0, .string ⟨#[]⟩, .int .i64 0, .int .i64 0] 31) := by
  subst B; exact heap_alloc_new w _

theorem numR_len (l : List UInt8) (t : Tk) (h : numR l = some t) : t.text.length = t.len := by
  unfold numR at h
  rw [Option.map_eq_some_iff] at h
  obtain ⟨v, _, rfl⟩ := h
  simp only
  rw [List.length_take, Nat.min_eq_left (wrun_len _)]

/-- the four cells of a token behind an address -/
theorem cells_of {w : World} {B : Nat} {c0 c1 c2 c3 : Value} (h : w.heap[B]? = some (.cells #[c0, c1, c2, c3] 31)) :
    w.cell? ⟨B, 0, none⟩ = some c0 ∧ w.cell? ⟨B, 1, none⟩ = some c1 ∧ w.cell? ⟨B, 2, none⟩ = some c2 ∧ w.cell? ⟨B, 3, none⟩ = some c3 ∧ (∀ o, w.frozen? ⟨B, o, none⟩ = false) := by
  simp [World.cell?, World.frozen?, h]

set_option maxRecDepth 100000 in
set_option maxHeartbeats 2000000 in
theorem Next_digit (s : ByteArray) (p : Nat) (w : World) (hs : s.size ≤ 100000) (hp : p < s.size) (hle : letterI s[p].toNat = false) (hdg : digitI s[p].toNat = true) :
    Calls Try.prog 34 #[.string s, .int .i64 p] w (TokPost w p (numR (s.data.toList.drop p))) := by
  go_enter Try.func34, Try.ntmps34
  go_wp2_with (first | (go_at_call 26; refine (Letter_any _ _).mono ?_; rintro e w' ⟨rfl, rfl⟩) | (go_at_call 27; refine (Digit_any _ _).mono ?_; rintro e w' ⟨rfl, rfl⟩))
  refine (NumberR_any s p _ hs hp).mono ?_
  intro e w1 hq
  obtain ⟨hb, hq⟩ := hq
  have hsz := hb.size
  simp only [World.size_alloc] at hsz
  have hszl : w.heap.size < w1.heap.size := by omega
  have kb := (hb.block w.heap.size (by simp)).trans (heap_alloc_new w _)
  obtain ⟨k0, k1, k2, k3, kf⟩ := cells_of kb
  have f0 := kf 0
  have f1 := kf 1
  have f2 := kf 2
  have f3 := kf 3
  have HB := Lib.hid (show Below w.heap.size w w1 from ((Below.refl _ _).alloc (Nat.le_refl _) _).trans (hb.mono (by simp)))
  clear hb kb kf
  cases hN : numR (s.data.toList.drop p) with
  | none =>
    rw [hN] at hq
    obtain rfl := hq
    have HN := Lib.hid hN
    clear hN
    unfold noTok
    go_wp2_with fail
    go_region
    all_goals go_wp2_with fail
    all_goals
      refine bodyPost_ret (v := .tuple #[tokV ⟨0, [], 0, 0⟩, .int .i64 p, .bool false]) (by simp [results, Try.results34, go_sem, tokV, k0, k1, k2, k3, hszl]) rfl ⟨?_, ?_⟩
      · repeat (first | exact HB.out | refine Below.drew ?_ | refine Below.setCell ?_ (by simp) _ | refine Below.alloc ?_ (by simp; omega) _)
      · rw [HN.out]; exact ⟨_, _, rfl⟩
  | some t =>
    rw [hN] at hq
    obtain rfl := hq
    have htl := numR_len _ _ hN
    have htl1 := wrun_le (s.data.toList.drop p)
    have htb : t.text.length ≤ 100000 := by
      unfold numR at hN
      rw [Option.map_eq_some_iff] at hN
      obtain ⟨v, _, rfl⟩ := hN
      simp only [List.length_take, List.length_drop, len_L] at htl1 ⊢
      omega
    have HTL := Lib.hid htl
    have HN := Lib.hid hN
    clear hN htl htl1
    unfold tokV
    go_wp2_with fail
    go_region
    all_goals go_wp2_with fail
    all_goals
      refine bodyPost_ret (v := .tuple #[tokV ⟨t.kind, t.text, t.n, p⟩, .int .i64 ((p : Int) + (t.text.length : Int)), .bool true]) (by simp [results, Try.results34, go_sem, tokV, k0, k1, k2, k3, hszl]) rfl ⟨?_, ?_⟩
      · repeat (first | exact HB.out | refine Below.drew ?_ | refine Below.setCell ?_ (by simp) _ | refine Below.alloc ?_ (by simp; omega) _)
      · rw [HN.out]
        show Ending.returned _ = Ending.returned _
        rw [HTL.out, show ((p + t.len : Nat) : Int) = (p : Int) + (t.len : Int) by omega]

set_option maxRecDepth 100000 in
set_option maxHeartbeats 2000000 in
theorem Next_quote (s : ByteArray) (p : Nat) (w : World) (hs : s.size ≤ 100000) (hp : p < s.size) (hle : letterI s[p].toNat = false) (hdg : digitI s[p].toNat = false) (hq0 : ((s[p].toNat : Int) == 34) = true) :
    Calls Try.prog 34 #[.string s, .int .i64 p] w (TokPost w p (quoteT (s.data.toList.drop p))) := by
  go_enter Try.func34, Try.ntmps34
  go_wp2_with (first | (go_at_call 26; refine (Letter_any _ _).mono ?_; rintro e w' ⟨rfl, rfl⟩) | (go_at_call 27; refine (Digit_any _ _).mono ?_; rintro e w' ⟨rfl, rfl⟩))
  refine (Quoted_any s p _ hs hp).mono ?_
  intro e w1 hq
  obtain ⟨hb, hq⟩ := hq
  have hsz := hb.size
  simp only [World.size_alloc] at hsz
  have hszl : w.heap.size < w1.heap.size := by omega
  have kb := (hb.block w.heap.size (by simp)).trans (heap_alloc_new w _)
  obtain ⟨k0, k1, k2, k3, kf⟩ := cells_of kb
  have f0 := kf 0
  have f1 := kf 1
  have f2 := kf 2
  have f3 := kf 3
  have HB := Lib.hid (show Below w.heap.size w w1 from ((Below.refl _ _).alloc (Nat.le_refl _) _).trans (hb.mono (by simp)))
  clear hb kb kf
  cases hN : quoteT (s.data.toList.drop p) with
  | none =>
    rw [hN] at hq
    obtain ⟨t, k, rfl⟩ := hq
    have HN := Lib.hid hN
    clear hN
    unfold tokV
    go_wp2_with fail
    refine bodyPost_ret (v := .tuple #[tokV t, .int .i64 k, .bool false]) (by simp [results, Try.results34, go_sem, tokV, k0, k1, k2, k3]) rfl ⟨?_, ?_⟩
    · exact (((((HB.out.setCell (by simp) _).setCell (by simp) _).setCell (by simp) _).setCell (by simp) _))
    · rw [HN.out]; exact ⟨_, _, rfl⟩
  | some t =>
    rw [hN] at hq
    obtain rfl := hq
    have HN := Lib.hid hN
    clear hN
    unfold tokV
    generalize hkk0 : p + t.len = kk
    have hkk := Lib.hid hkk0
    clear hkk0
    go_wp2_with fail
    refine bodyPost_ret (v := .tuple #[tokV ⟨t.kind, t.text, t.n, p⟩, .int .i64 (kk : Int), .bool true]) (by simp [results, Try.results34, go_sem, tokV, k0, k1, k2, k3]) rfl ⟨?_, ?_⟩
    · exact (((((HB.out.setCell (by simp) _).setCell (by simp) _).setCell (by simp) _).setCell (by simp) _))
    · rw [HN.out, ← hkk.out]

set_option maxRecDepth 100000 in
set_option maxHeartbeats 2000000 in
theorem Next_sign (s : ByteArray) (p : Nat) (w : World) (hs : s.size ≤ 100000) (hp : p < s.size) (hle : letterI s[p].toNat = false) (hdg : digitI s[p].toNat = false) (hq0 : ((s[p].toNat : Int) == 34) = false) :
    Calls Try.prog 34 #[.string s, .int .i64 p] w (TokPost w p (signT (s.data.toList.drop p))) := by
  have hsl : signN (s.data.toList.drop p) ≤ (s.data.toList.drop p).length := by rw [drop_at s p hp]; exact signN_le _ _
  have hlen : ((s.data.toList.drop p).take (signN (s.data.toList.drop p))).length = signN (s.data.toList.drop p) := by rw [List.length_take, Nat.min_eq_left hsl]
  have HT := Lib.hid (show signT (s.data.toList.drop p) = if signN (s.data.toList.drop p) = 0 then none else some ⟨5, signN (s.data.toList.drop p), (s.data.toList.drop p).take (signN (s.data.toList.drop p)), 0⟩ from rfl)
  simp only [List.length_drop, len_L] at hsl
  have HSG := Lib.hid (fun w => Sign_any s p w hs hp)
  go_enter Try.func34, Try.ntmps34
  generalize signN (s.data.toList.drop p) = m at *
  generalize (s.data.toList.drop p).take m = T at *
  have HLN := Lib.hid hlen
  have htb : T.length ≤ 100000 := by omega
  clear hlen
  go_wp2_with (first | (go_at_call 26; refine (Letter_any _ _).mono ?_; rintro e w' ⟨rfl, rfl⟩) | (go_at_call 27; refine (Digit_any _ _).mono ?_; rintro e w' ⟨rfl, rfl⟩))
  refine (HSG.out _).mono ?_
  rintro e w1 ⟨rfl, rfl⟩
  by_cases h0 : m = 0
  · have hT : T = [] := List.length_eq_zero_iff.1 (by rw [HLN.out, h0])
    have HF := Lib.hid (show signT (s.data.toList.drop p) = none by rw [HT.out, if_pos h0])
    subst hT
    clear h0
    go_wp2_with fail
    refine bodyPost_ret (v := .tuple #[tokV ⟨5, [], 0, p⟩, .int .i64 p, .bool false]) (by simp [results, Try.results34, go_sem, tokV]) rfl ⟨?_, ?_⟩
    · exact (Below.refl _ _).alloc (Nat.le_refl _) _
    · rw [HF.out]; exact ⟨_, _, rfl⟩
  · have HF := Lib.hid (show signT (s.data.toList.drop p) = _ by rw [HT.out, if_neg h0])
    have hne : T.isEmpty = false := by
      cases T with
      | nil => have := HLN.out; simp at this; omega
      | cons c r => rfl
    have hne2 : T ≠ [] := by rintro rfl; simp at hne
    clear h0
    go_wp2_with fail
    refine bodyPost_ret (v := .tuple #[tokV ⟨5, T, 0, p⟩, .int .i64 ((p : Int) + (T.length : Int)), .bool true]) (by simp [results, Try.results34, go_sem, tokV]) rfl ⟨?_, ?_⟩
    · exact (Below.refl _ _).alloc (Nat.le_refl _) _
    · rw [HF.out, ← HLN.out]
      show Ending.returned _ = Ending.returned _
      rw [show ((p + T.length : Nat) : Int) = (p : Int) + (T.length : Int) by omega]

theorem Next_any (s : ByteArray) (p : Nat) (w : World) (hs : s.size ≤ 100000) (hp : p < s.size) :
    Calls Try.prog 34 #[.string s, .int .i64 p] w (TokPost w p (nextL (s.data.toList.drop p))) := by
  rw [nextL_at s p hp]
  cases hle : letterI s[p].toNat
  · rw [if_neg (by simp)]
    cases hdg : digitI s[p].toNat
    · rw [if_neg (by simp)]
      cases hq : ((s[p].toNat : Int) == 34)
      · rw [if_neg (by simp)]
        exact Next_sign s p w hs hp hle hdg hq
      · rw [if_pos rfl]
        exact Next_quote s p w hs hp hle hdg hq
    · rw [if_pos rfl]
      exact Next_digit s p w hs hp hle hdg
  · rw [if_pos rfl]
    exact Next_letter s p w hs hp hle
end Go.Proofs.Ythmhbhlkbihdbaa
