/- The walk of the reference's number. -/
import Derived.Test.YthmhbhlkbihdbaaC4
import Derived.Test.YthmhbhlkbihdbaaA3
namespace Go.Proofs.Ythmhbhlkbihdbaa
open Go.RowKit LexP

/-- a token as a value -/
def tokV (t : Tok) : Value := .agg #[.int .i64 t.kind, .string ⟨t.text.toArray⟩, .int .i64 t.n, .int .i64 t.pos]
def noTok : Value := .agg #[.int .i64 0, .string ⟨#[]⟩, .int .i64 0, .int .i64 0]

/-- what number hands back -/
def NumPost (w : World) (p : Nat) (o : Option Tk) (e : Ending) (w' : World) : Prop :=
  Below w.heap.size w w' ∧
  match o with
  | some t => e = .returned (.tuple #[tokV ⟨t.kind, t.text, t.n, p⟩, .bool true])
  | none => e = .returned (.tuple #[noTok, .bool false])

/-- the digits from place k on, behind the value x -/
def digR (s : ByteArray) (k : Nat) (x : Int) : Option Int := digV x ((s.data.toList.drop k).take (wrun (s.data.toList.drop k)))
theorem digR_end (s : ByteArray) (k : Nat) (x : Int) (h : s.size ≤ k) : digR s k x = some x ∧ wrun (s.data.toList.drop k) = 0 := by
  unfold digR; rw [drop_end s k h]; exact ⟨rfl, rfl⟩
theorem digR_step (s : ByteArray) (k : Nat) (x : Int) (h : k < s.size) (hd : digitI s[k].toNat = true) :
    wrun (s.data.toList.drop k) = wrun (s.data.toList.drop (k + 1)) + 1 ∧
    digR s k x = if decide (x ≤ (9223372036854775807 - ((s[k].toNat : Int) - 48)) / 10) then digR s (k + 1) (x * 10 + ((s[k].toNat : Int) - 48)) else none := by
  have hw : wrun (s.data.toList.drop k) = wrun (s.data.toList.drop (k + 1)) + 1 := by
    rw [wrun_step s k h, if_pos (by simp [wordC, hd])]
  refine ⟨hw, ?_⟩
  unfold digR
  rw [hw]
  conv => lhs; rw [drop_at s k h]
  rw [List.take_succ_cons, digV, hd]
  simp
theorem digR_letter (s : ByteArray) (k : Nat) (x : Int) (h : k < s.size) (hd : digitI s[k].toNat = false) (hl : letterI s[k].toNat = true) : digR s k x = none := by
  have hw : wrun (s.data.toList.drop k) = wrun (s.data.toList.drop (k + 1)) + 1 := by
    rw [wrun_step s k h, if_pos (by simp [wordC, hl])]
  unfold digR
  rw [hw]
  conv => lhs; rw [drop_at s k h]
  rw [List.take_succ_cons, digV, hd]
  simp
theorem digR_other (s : ByteArray) (k : Nat) (x : Int) (h : k < s.size) (hd : digitI s[k].toNat = false) (hl : letterI s[k].toNat = false) : digR s k x = some x ∧ wrun (s.data.toList.drop k) = 0 := by
  have hw : wrun (s.data.toList.drop k) = 0 := by
    rw [wrun_step s k h, if_neg (by simp [wordC, hl, hd])]
  refine ⟨?_, hw⟩
  unfold digR
  rw [hw]; rfl
theorem numR_eq (s : ByteArray) (p : Nat) (h : p < s.size) (m : Nat) (hm : wrun (s.data.toList.drop p) = m) : numR (s.data.toList.drop p) =
    (if decide (1 < m) && ((s[p].toNat : Int) == 48) then none else digR s p 0).map fun v => ⟨3, m, (s.data.toList.drop p).take m, v⟩ := by
  have hl : m ≤ (s.data.toList.drop p).length := by rw [← hm]; exact wrun_len _
  unfold numR digR
  rw [hm]
  congr 1
  rw [numT, List.length_take, Nat.min_eq_left hl]
  have : (decide (1 < m) && headIs 48 ((s.data.toList.drop p).take m)) = (decide (1 < m) && ((s[p].toNat : Int) == 48)) := by
    cases m with
    | zero => rfl
    | succ m => rw [drop_at s p h, List.take_succ_cons]; rfl
  rw [this]

theorem mid_mk' (s : ByteArray) (p k : Nat) (_h : p ≤ k) : s.extract p k = ⟨((s.data.toList.drop p).take (k - p)).toArray⟩ := extract_mk s p k
theorem numR_none (s : ByteArray) (p : Nat) (h : p < s.size) (hd : digR s p 0 = none) : numR (s.data.toList.drop p) = none := by
  rw [numR_eq s p h _ rfl, hd]; split <;> rfl

set_option maxRecDepth 100000 in
set_option maxHeartbeats 2000000 in
theorem NumberR_any (s : ByteArray) (p : Nat) (w : World) (hs : s.size ≤ 100000) (hp : p < s.size) :
    Calls Try.prog 35 #[.string s, .int .i64 p] w (NumPost w p (numR (s.data.toList.drop p))) := by
  go_enter Try.func35, Try.ntmps35
  go_wp2_with fail
  go_loop [6, 7] (fun i v => ∃ (k : Nat) (x : Int), p ≤ k ∧ k ≤ s.size ∧ i = .int .i64 k ∧ v = .int .i64 x ∧ 0 ≤ x ∧ x ≤ 9223372036854775807 ∧ Hid (digR s p 0 = digR s k x ∧ wrun (s.data.toList.drop p) = (k - p) + wrun (s.data.toList.drop k))) (fun i _ => s.size - (intOf i).toNat)
  case atStart => exact ⟨p, 0, by omega, by omega, rfl, rfl, by omega, by omega, rfl, by omega⟩
  case round =>
    obtain ⟨k, x, hpk, hk, rfl, rfl, hx0, hx1, H⟩ := hrel
    by_cases hlt : k < s.size
    · have hb1 : (s[k].toNat : Int) < 256 := by have := s[k].toNat_lt; omega
      have hb0 : 0 ≤ (s[k].toNat : Int) := by omega
      cases hdg : digitI s[k].toNat
      case true =>
        have hd2 : 48 ≤ (s[k].toNat : Int) ∧ (s[k].toNat : Int) ≤ 57 := by simpa [digitI] using hdg
        obtain ⟨hd3, hd4⟩ := hd2
        have HD := Lib.hid (digR_step s k x hlt hdg)
        go_wp2_with (go_at_call 27; refine (Digit_any _ _).mono ?_; rintro e w' ⟨rfl, rfl⟩)
        · have HNo := Lib.hid (numR_none s p hp (by rw [H.out.1, HD.out.2, decide_eq_false (by omega)]; rfl))
          refine bodyPost_ret (v := .tuple #[noTok, .bool false]) (by simp [results, Try.results35, go_sem, noTok]) rfl ⟨?_, ?_⟩
          · first | exact ((Below.refl _ _).alloc (Nat.le_refl _) _) | exact (((Below.refl _ _).alloc (Nat.le_refl _) _).setCell (by simp) _) | trace_state
          · rw [HNo.out]
        · exact ⟨⟨k + 1, 10 * x + ((s[k].toNat : Int) - 48), by omega, by omega, by go_num, rfl, by omega, by omega, by rw [H.out.1, HD.out.2, decide_eq_true (by omega), Int.mul_comm]; rfl, by have h1 := H.out.2; have h2 := HD.out.1; omega⟩, by simp [intOf]; omega⟩
      case false =>
       cases hle : letterI s[k].toNat
       case true =>
        have HNo := Lib.hid (numR_none s p hp (by rw [H.out.1, digR_letter s k x hlt hdg hle]))
        go_wp2_with (first | (go_at_call 27; refine (Digit_any _ _).mono ?_; rintro e w' ⟨rfl, rfl⟩) | (go_at_call 26; refine (Letter_any _ _).mono ?_; rintro e w' ⟨rfl, rfl⟩))
        all_goals
          refine bodyPost_ret (v := .tuple #[noTok, .bool false]) (by simp [results, Try.results35, go_sem, noTok]) rfl ⟨?_, ?_⟩
          · first | exact ((Below.refl _ _).alloc (Nat.le_refl _) _) | exact (((Below.refl _ _).alloc (Nat.le_refl _) _).setCell (by simp) _) | trace_state
          · rw [HNo.out]
       case false =>
        have HD2 := Lib.hid (show digR s p 0 = some x by rw [H.out.1, (digR_other s k x hlt hdg hle).1])
        have HE := Lib.hid (numR_eq s p hp (k - p) (by rw [H.out.2, (digR_other s k x hlt hdg hle).2]; rfl))

        have hkp : (k : Int) = (p : Int) + (k - p : Nat) := by omega
        have HKP := Lib.hid hkp
        have EX := Lib.hid (mid_mk' s p k hpk)
        clear hkp
        by_cases hlead : p + 1 < k ∧ ((s[p].toNat : Int) == 48) = true
        · obtain ⟨g1, g2⟩ := hlead
          have HNo := Lib.hid (show numR (s.data.toList.drop p) = none by rw [HE.out, if_pos (by rw [g2, decide_eq_true (by omega)]; rfl)]; rfl)
          go_wp2_with (first | (go_at_call 27; refine (Digit_any _ _).mono ?_; rintro e w' ⟨rfl, rfl⟩) | (go_at_call 26; refine (Letter_any _ _).mono ?_; rintro e w' ⟨rfl, rfl⟩))
          refine bodyPost_ret (v := .tuple #[noTok, .bool false]) (by simp [results, Try.results35, go_sem, noTok]) rfl ⟨?_, ?_⟩
          · first | exact ((Below.refl _ _).alloc (Nat.le_refl _) _) | exact (((Below.refl _ _).alloc (Nat.le_refl _) _).setCell (by simp) _) | trace_state
          · rw [HNo.out]
        · have HYes := Lib.hid (show numR (s.data.toList.drop p) = some ⟨3, k - p, (s.data.toList.drop p).take (k - p), x⟩ by
            rw [HE.out, if_neg, HD2.out]
            · rfl
            · intro hh
              rw [Bool.and_eq_true, decide_eq_true_eq] at hh
              exact hlead ⟨by omega, hh.2⟩)
          have hlead' : k ≤ p + 1 ∨ (p + 1 < k ∧ ((s[p].toNat : Int) == 48) = false) := by
            by_cases h1 : p + 1 < k
            · right
              refine ⟨h1, ?_⟩
              cases h2 : ((s[p].toNat : Int) == 48)
              · rfl
              · exact absurd ⟨h1, h2⟩ hlead
            · left; omega
          clear hlead
          rcases hlead' with g1 | ⟨g1, g2⟩
          all_goals
            go_wp2_with (first | (go_at_call 27; refine (Digit_any _ _).mono ?_; rintro e w' ⟨rfl, rfl⟩) | (go_at_call 26; refine (Letter_any _ _).mono ?_; rintro e w' ⟨rfl, rfl⟩))
            refine bodyPost_ret (v := .tuple #[tokV ⟨3, (s.data.toList.drop p).take (k - p), x, p⟩, .bool true]) (by simp [results, Try.results35, go_sem, tokV, EX.out]) rfl ⟨?_, ?_⟩
            · first | exact ((Below.refl _ _).alloc (Nat.le_refl _) _) | exact (((Below.refl _ _).alloc (Nat.le_refl _) _).setCell (by simp) _) | trace_state
            · rw [HYes.out]
    · have HD2 := Lib.hid (show digR s p 0 = some x by rw [H.out.1, (digR_end s k x (by omega)).1])
      have HE := Lib.hid (numR_eq s p hp (k - p) (by rw [H.out.2, (digR_end s k x (by omega)).2]; rfl))
      have hkp : (k : Int) = (p : Int) + (k - p : Nat) := by omega
      have HKP := Lib.hid hkp
      have EX := Lib.hid (mid_mk' s p k hpk)
      clear hkp
      by_cases hlead : p + 1 < k ∧ ((s[p].toNat : Int) == 48) = true
      · obtain ⟨g1, g2⟩ := hlead
        have HNo := Lib.hid (show numR (s.data.toList.drop p) = none by rw [HE.out, if_pos (by rw [g2, decide_eq_true (by omega)]; rfl)]; rfl)
        go_wp2_with (first | (go_at_call 27; refine (Digit_any _ _).mono ?_; rintro e w' ⟨rfl, rfl⟩) | (go_at_call 26; refine (Letter_any _ _).mono ?_; rintro e w' ⟨rfl, rfl⟩))
        refine bodyPost_ret (v := .tuple #[noTok, .bool false]) (by simp [results, Try.results35, go_sem, noTok]) rfl ⟨?_, ?_⟩
        · first | exact ((Below.refl _ _).alloc (Nat.le_refl _) _) | exact (((Below.refl _ _).alloc (Nat.le_refl _) _).setCell (by simp) _) | trace_state
        · rw [HNo.out]
      · have HYes := Lib.hid (show numR (s.data.toList.drop p) = some ⟨3, k - p, (s.data.toList.drop p).take (k - p), x⟩ by
          rw [HE.out, if_neg, HD2.out]
          · rfl
          · intro hh
            rw [Bool.and_eq_true, decide_eq_true_eq] at hh
            exact hlead ⟨by omega, hh.2⟩)
        have hlead' : k ≤ p + 1 ∨ (p + 1 < k ∧ ((s[p].toNat : Int) == 48) = false) := by
          by_cases h1 : p + 1 < k
          · right
            refine ⟨h1, ?_⟩
            cases h2 : ((s[p].toNat : Int) == 48)
            · rfl
            · exact absurd ⟨h1, h2⟩ hlead
          · left; omega
        clear hlead
        rcases hlead' with g1 | ⟨g1, g2⟩
        all_goals
          go_wp2_with (first | (go_at_call 27; refine (Digit_any _ _).mono ?_; rintro e w' ⟨rfl, rfl⟩) | (go_at_call 26; refine (Letter_any _ _).mono ?_; rintro e w' ⟨rfl, rfl⟩))
          refine bodyPost_ret (v := .tuple #[tokV ⟨3, (s.data.toList.drop p).take (k - p), x, p⟩, .bool true]) (by simp [results, Try.results35, go_sem, tokV, EX.out]) rfl ⟨?_, ?_⟩
          · first | exact ((Below.refl _ _).alloc (Nat.le_refl _) _) | exact (((Below.refl _ _).alloc (Nat.le_refl _) _).setCell (by simp) _) | trace_state
          · rw [HYes.out]
end Go.Proofs.Ythmhbhlkbihdbaa
