/- The walk of the reference's sign. -/
import Derived.Test.YthmhbhlkbihdbaaC4
namespace Go.Proofs.Ythmhbhlkbihdbaa
open Go.RowKit LexP

theorem mid2_L (s : ByteArray) (p : Nat) : (s.extract p (p + 2)).toList = ((s.extract p s.size).extract 0 2).toList := by
  rw [take2_L, ByteArray.toList_eq, extract_mid]
theorem mid_mk (s : ByteArray) (p n : Nat) : s.extract p (p + n) = ⟨((s.data.toList.drop p).take n).toArray⟩ := by
  rw [extract_mk, Nat.add_sub_cancel_left]

set_option maxRecDepth 100000 in
set_option maxHeartbeats 4000000 in
theorem Sign_two (s : ByteArray) (p : Nat) (w : World) (hs : s.size ≤ 100000) (_hp : p < s.size) (h2 : p + 1 < s.size) (htwo : twoL (s.extract p (p + 2)).toList = true) : Calls Try.prog 37 #[.string s, .int .i64 p] w fun e w' => e = .returned (.string ⟨((s.data.toList.drop p).take (signN (s.data.toList.drop p))).toArray⟩) ∧ w = w' := by
  have HS := Lib.hid (signN_two s p h2 (by rw [← mid2_L]; exact htwo))
  simp only [twoL, Bool.or_eq_true, beq_iff_eq] at htwo
  have hb2 : (p : Int) + 2 ≤ (s.size : Int) := by omega
  rcases htwo with (((((h|h)|h)|h)|h)|h)|h
  all_goals
    go_enter Try.func37, Try.ntmps37
    go_wp2_with fail
    go_ret
    exact ⟨by rw [HS.out, mid_mk]; rfl, rfl⟩

set_option maxRecDepth 100000 in
set_option maxHeartbeats 4000000 in
theorem Sign_a (s : ByteArray) (p : Nat) (w : World) (hs : s.size ≤ 100000) (hp : p < s.size) (h2 : p + 1 < s.size) (htwo : twoL (s.extract p (p + 2)).toList = false) (hone : oneI s[p].toNat = true) : Calls Try.prog 37 #[.string s, .int .i64 p] w fun e w' => e = .returned (.string ⟨((s.data.toList.drop p).take (signN (s.data.toList.drop p))).toArray⟩) ∧ w = w' := by
  have HS := Lib.hid (show signN (s.data.toList.drop p) = 1 by rw [signN_not s p hp (fun _ => by rw [← mid2_L]; exact htwo), hone]; rfl)
  have hb2 : (p : Int) + 2 ≤ (s.size : Int) := by omega
  simp only [twoL, Bool.or_eq_false_iff] at htwo
  obtain ⟨⟨⟨⟨⟨⟨e1, e2⟩, e3⟩, e4⟩, e5⟩, e6⟩, e7⟩ := htwo
  simp only [oneI, Bool.or_eq_true, beq_iff_eq] at hone
  rcases hone with ((((((((((((((((((h|h)|h)|h)|h)|h)|h)|h)|h)|h)|h)|h)|h)|h)|h)|h)|h)|h)|h)|h
  all_goals
    go_enter Try.func37, Try.ntmps37
    go_wp2_with fail
    go_ret
    exact ⟨by rw [HS.out, mid_mk]; rfl, rfl⟩

set_option maxRecDepth 100000 in
set_option maxHeartbeats 1000000 in
theorem Sign_aNo (s : ByteArray) (p : Nat) (w : World) (hs : s.size ≤ 100000) (hp : p < s.size) (h2 : p + 1 < s.size) (htwo : twoL (s.extract p (p + 2)).toList = false) (hone : oneI s[p].toNat = false) : Calls Try.prog 37 #[.string s, .int .i64 p] w fun e w' => e = .returned (.string ⟨((s.data.toList.drop p).take (signN (s.data.toList.drop p))).toArray⟩) ∧ w = w' := by
  have HS := Lib.hid (show signN (s.data.toList.drop p) = 0 by rw [signN_not s p hp (fun _ => by rw [← mid2_L]; exact htwo), hone]; rfl)
  have hb2 : (p : Int) + 2 ≤ (s.size : Int) := by omega
  simp only [twoL, Bool.or_eq_false_iff] at htwo
  obtain ⟨⟨⟨⟨⟨⟨e1, e2⟩, e3⟩, e4⟩, e5⟩, e6⟩, e7⟩ := htwo
  simp only [oneI, Bool.or_eq_false_iff] at hone
  obtain ⟨⟨⟨⟨⟨⟨⟨⟨⟨⟨⟨⟨⟨⟨⟨⟨⟨⟨⟨f1, f2⟩, f3⟩, f4⟩, f5⟩, f6⟩, f7⟩, f8⟩, f9⟩, f10⟩, f11⟩, f12⟩, f13⟩, f14⟩, f15⟩, f16⟩, f17⟩, f18⟩, f19⟩, f20⟩ := hone
  go_enter Try.func37, Try.ntmps37
  go_wp2_with fail
  go_ret
  exact ⟨by rw [HS.out]; rfl, rfl⟩

set_option maxRecDepth 100000 in
set_option maxHeartbeats 4000000 in
theorem Sign_b (s : ByteArray) (p : Nat) (w : World) (hs : s.size ≤ 100000) (hp : p < s.size) (h2 : s.size ≤ p + 1) (hone : oneI s[p].toNat = true) : Calls Try.prog 37 #[.string s, .int .i64 p] w fun e w' => e = .returned (.string ⟨((s.data.toList.drop p).take (signN (s.data.toList.drop p))).toArray⟩) ∧ w = w' := by
  have HS := Lib.hid (show signN (s.data.toList.drop p) = 1 by rw [signN_not s p hp (fun h => absurd h (by omega)), hone]; rfl)
  have hb2 : (s.size : Int) ≤ (p : Int) + 1 := by omega
  simp only [oneI, Bool.or_eq_true, beq_iff_eq] at hone
  rcases hone with ((((((((((((((((((h|h)|h)|h)|h)|h)|h)|h)|h)|h)|h)|h)|h)|h)|h)|h)|h)|h)|h)|h
  all_goals
    go_enter Try.func37, Try.ntmps37
    go_wp2_with fail
    go_ret
    exact ⟨by rw [HS.out, mid_mk]; rfl, rfl⟩

set_option maxRecDepth 100000 in
set_option maxHeartbeats 1000000 in
theorem Sign_bNo (s : ByteArray) (p : Nat) (w : World) (hs : s.size ≤ 100000) (hp : p < s.size) (h2 : s.size ≤ p + 1) (hone : oneI s[p].toNat = false) : Calls Try.prog 37 #[.string s, .int .i64 p] w fun e w' => e = .returned (.string ⟨((s.data.toList.drop p).take (signN (s.data.toList.drop p))).toArray⟩) ∧ w = w' := by
  have HS := Lib.hid (show signN (s.data.toList.drop p) = 0 by rw [signN_not s p hp (fun h => absurd h (by omega)), hone]; rfl)
  have hb2 : (s.size : Int) ≤ (p : Int) + 1 := by omega
  simp only [oneI, Bool.or_eq_false_iff] at hone
  obtain ⟨⟨⟨⟨⟨⟨⟨⟨⟨⟨⟨⟨⟨⟨⟨⟨⟨⟨⟨f1, f2⟩, f3⟩, f4⟩, f5⟩, f6⟩, f7⟩, f8⟩, f9⟩, f10⟩, f11⟩, f12⟩, f13⟩, f14⟩, f15⟩, f16⟩, f17⟩, f18⟩, f19⟩, f20⟩ := hone
  go_enter Try.func37, Try.ntmps37
  go_wp2_with fail
  go_ret
  exact ⟨by rw [HS.out]; rfl, rfl⟩

theorem Sign_any (s : ByteArray) (p : Nat) (w : World) (hs : s.size ≤ 100000) (hp : p < s.size) : Calls Try.prog 37 #[.string s, .int .i64 p] w fun e w' => e = .returned (.string ⟨((s.data.toList.drop p).take (signN (s.data.toList.drop p))).toArray⟩) ∧ w = w' := by
  by_cases h2 : p + 1 < s.size
  · cases h3 : twoL (s.extract p (p + 2)).toList
    · cases h4 : oneI s[p].toNat
      · exact Sign_aNo s p w hs hp h2 h3 h4
      · exact Sign_a s p w hs hp h2 h3 h4
    · exact Sign_two s p w hs hp h2 h3
  · cases h4 : oneI s[p].toNat
    · exact Sign_bNo s p w hs hp (by omega) h4
    · exact Sign_b s p w hs hp (by omega) h4
end Go.Proofs.Ythmhbhlkbihdbaa
