/- The walk of blanks. -/
import Derived.Test.YthmhbhlkbihdbaaA2
namespace Go.Proofs.Ythmhbhlkbihdbaa
open Go.RowKit LexP

/-- where the blanks from place p on end; b: inside a remark -/
def bl (b : Bool) (s : ByteArray) (p : Nat) : Nat := p + blankGo b (s.data.toList.drop p)
theorem bl_end (b : Bool) (s : ByteArray) (p : Nat) (h : s.size ≤ p) : bl b s p = p := by
  unfold bl; rw [drop_end s p h]; cases b <;> simp [blankGo]
theorem bl_ws (s : ByteArray) (p : Nat) (h : p < s.size) (hw : wsI s[p].toNat = true) : bl false s p = bl false s (p + 1) := by
  unfold bl; rw [drop_at s p h, blankGo, if_pos hw]; omega
theorem bl_nl (s : ByteArray) (p : Nat) (h : p < s.size) (hw : ((s[p].toNat : Int) == 10) = true) : bl true s p = bl false s p := by
  have h10 : wsI s[p].toNat = true := by simp at hw; simp [wsI, hw]
  unfold bl; rw [drop_at s p h, blankGo, if_pos hw, blankGo, if_pos h10]
theorem bl_in (s : ByteArray) (p : Nat) (h : p < s.size) (hw : ((s[p].toNat : Int) == 10) = false) : bl true s p = bl true s (p + 1) := by
  unfold bl; rw [drop_at s p h, blankGo, if_neg (by simp [hw])]; omega
theorem bl_no (s : ByteArray) (p : Nat) (h : p < s.size) (hw : wsI s[p].toNat = false) (h2 : ((s[p].toNat : Int) == 47 && headIs 47 (s.data.toList.drop (p + 1))) = false) : bl false s p = p := by
  unfold bl; rw [drop_at s p h, blankGo, if_neg (by simp [hw]), if_neg (by rw [h2]; simp)]; omega
theorem bl_rem (s : ByteArray) (p : Nat) (h : p < s.size) (hw : wsI s[p].toNat = false) (h1 : ((s[p].toNat : Int) == 47) = true) (hn : p + 1 < s.size) (h2 : ((s[p + 1].toNat : Int) == 47) = true) : bl false s p = bl true s p := by
  have h3 : headIs 47 (s.data.toList.drop (p + 1)) = true := by rw [drop_at s (p + 1) hn]; exact h2
  unfold bl
  have h4 : ((s[p].toNat : Int) == 10) = false := by simp at h1; simp; omega
  have e1 : blankGo false (s.data.toList.drop p) = blankGo true (s.data.toList.drop (p + 1)) + 1 := by rw [drop_at s p h, blankGo, if_neg (by simp [hw]), if_pos (by rw [h1, h3]; rfl)]
  have e2 : blankGo true (s.data.toList.drop p) = blankGo true (s.data.toList.drop (p + 1)) + 1 := by rw [drop_at s p h, blankGo, if_neg (by rw [h4]; simp)]
  rw [e1, e2]
theorem headIs_no (s : ByteArray) (p : Nat) (h : p < s.size) (h2 : ((s[p].toNat : Int) == 47) = false) : headIs 47 (s.data.toList.drop p) = false := by
  rw [drop_at s p h]; exact h2
theorem headIs_end (s : ByteArray) (p : Nat) (h : s.size ≤ p) : headIs 47 (s.data.toList.drop p) = false := by
  rw [drop_end s p h]; rfl

theorem Rds.pos {B : Nat} {w w' : World} {R : Nat} {s : ByteArray} {q n : Nat} {xs : List Value} (h : Rds B w R s q n xs w') : posOf w' R = q := by
  obtain ⟨tv, h1, _, _⟩ := h
  exact h1.pos

set_option maxRecDepth 100000 in
set_option maxHeartbeats 2000000 in
theorem blanks_any (R : Nat) (s : ByteArray) (p0 : Nat) (tv : Value) (n : Nat) (xs : List Value) (w : World) (hs : s.size ≤ maxLen) (hp0 : p0 ≤ s.size)
    (hr : Rd w R s p0 tv) (hown : w.ownsRow (R + 1) 31 4 tv n xs) :
    Calls Try.prog 20 #[.pointer (some ⟨R, 0, none⟩)] w fun e w' => e = .returned (.tuple #[]) ∧ Rds R w R s (bl false s p0) n xs w' := by
  unfold maxLen at hs
  have HR0 := Lib.hid (show Rds R w R s p0 n xs w from ⟨tv, hr, hown, Below.refl _ _⟩)
  clear hr hown
  go_enter Try.func20, Try.ntmps20
  go_wp2_with fail
  go_loopw [2] (fun _ wr => ∃ p, p ≤ s.size ∧ Rds R w R s p n xs wr ∧ Hid (bl false s p0 = bl false s p)) (fun _ wr => s.size - posOf wr R)
  case atStart => exact ⟨p0, hp0, HR0.out, rfl⟩
  case round =>
    obtain ⟨p, hp, hr, HE⟩ := hrel
    have HR := Lib.hid hr
    obtain ⟨tv, hr, _, _⟩ := hr
    have h0 := hr.c0
    have h1 := hr.c1
    have hf := hr.fr 1
    have hlt := hr.lt
    have HM := Lib.hid hr.pos
    clear hr
    by_cases hlt : p < s.size
    · go_wp2_with (go_quiet (fail))
      iterate 4
        case roundEnd =>
          have hw : wsI s[p].toNat = true := by simp_all [wsI]
          have hq := (HR.out.drew nq).set1 (Nat.le_refl _) (p + 1)
          exact ⟨⟨p + 1, by omega, (HR.out.drew _).set1 (Nat.le_refl _) (p + 1), HE.out.trans (bl_ws s p hlt hw)⟩, by rw [HM.out]; refine Nat.lt_of_le_of_lt (Nat.le_of_eq (congrArg _ ((HR.out.drew _).set1 (Nat.le_refl _) (p + 1)).pos)) ?_; omega⟩
      have hw : wsI s[p].toNat = false := by simp_all [wsI]
      by_cases h47 : ((s[p].toNat : Int) == 47) = true
      case neg =>
        have h47 : ((s[p].toNat : Int) == 47) = false := by simpa using h47
        go_wp2_with (go_quiet (fail))
        refine bodyPost_ret (results_none rfl _ _ _) rfl ⟨rfl, ?_⟩
        rw [HE.out, bl_no s p hlt hw (by rw [h47]; rfl)]
        exact (HR.out.drew _).drew _
      by_cases hn : p + 1 < s.size
      case neg =>
        have hd : decide ((p : Int) + 1 < (s.size : Int)) = false := by simp; omega
        go_wp2_with (go_quiet (fail))
        refine bodyPost_ret (results_none rfl _ _ _) rfl ⟨rfl, ?_⟩
        rw [HE.out, bl_no s p hlt hw (by rw [headIs_end s _ (by omega)]; simp)]
        exact (HR.out.drew _).drew _
      have hwr : IntKind.i64.wrap ((p : Int) + 1) = (p : Int) + 1 := IntWalk.i64_in _ (by omega)
      have hnn : 0 ≤ (p : Int) + 1 := by omega
      have htn : ((p : Int) + 1).toNat = p + 1 := by omega
      have hlt2 : (p : Int) + 1 < (s.size : Int) := by omega
      by_cases h2 : ((s[p + 1].toNat : Int) == 47) = true
      case neg =>
        have h2 : ((s[p + 1].toNat : Int) == 47) = false := by simpa using h2
        go_wp2_with (go_quiet (fail))
        refine bodyPost_ret (results_none rfl _ _ _) rfl ⟨rfl, ?_⟩
        rw [HE.out, bl_no s p hlt hw (by rw [headIs_no s _ hn h2]; simp)]
        exact (HR.out.drew _).drew _
      go_quiet (fail)
      clear hwr
      have hE2 := Lib.hid (bl_rem s p hlt hw h47 hn h2)
      go_wp2_with fail
      obtain ⟨wo, hwo⟩ : ∃ wo : World, wo = wr := ⟨_, rfl⟩
      go_loopw [73] (fun _ wr => ∃ q, p ≤ q ∧ q ≤ s.size ∧ Rds R w R s q n xs wr ∧ Hid (bl false s p0 = bl true s q)) (fun _ wr => s.size - posOf wr R)
      case atStart => exact ⟨p, by omega, hp, ((HR.out.drew _).drew _), HE.out.trans hE2.out⟩
      case round =>
        obtain ⟨q, hpq, hq, hr, HE3⟩ := hrel
        have HR3 := Lib.hid hr
        obtain ⟨tv3, hr, hx1, hx2⟩ := hr
        clear hx1 hx2 h0 h1 hf
        have h0 := hr.c0
        have h1 := hr.c1
        have hf := hr.fr 1
        have HM3 := Lib.hid hr.pos
        clear hr
        by_cases hlt3 : q < s.size
        · by_cases h10 : ((s[q].toNat : Int) != 10) = true
          · go_wp2_with (go_quiet (fail))
            exact ⟨⟨q + 1, by omega, by omega, (HR3.out.drew _).set1 (Nat.le_refl _) (q + 1), HE3.out.trans (bl_in s q hlt3 (by simpa using h10))⟩, by rw [HM3.out]; refine Nat.lt_of_le_of_lt (Nat.le_of_eq (congrArg _ ((HR3.out.drew _).set1 (Nat.le_refl _) (q + 1)).pos)) ?_; omega⟩
          · go_wp2_with (go_quiet (fail))
            have hne : q ≠ p := by rintro rfl; simp_all
            exact ⟨⟨q, by omega, (HR3.out.drew _), HE3.out.trans (bl_nl s q hlt3 (by simpa using h10))⟩, by rw [HM.out]; refine Nat.lt_of_le_of_lt (Nat.le_of_eq (congrArg _ (HR3.out.drew _).pos)) ?_; omega⟩
        · go_wp2_with (go_quiet (fail))
          exact ⟨⟨q, by omega, (HR3.out.drew _), HE3.out.trans ((bl_end _ s q (by omega)).trans (bl_end _ s q (by omega)).symm)⟩, by rw [HM.out]; refine Nat.lt_of_le_of_lt (Nat.le_of_eq (congrArg _ (HR3.out.drew _).pos)) ?_; omega⟩
    · go_wp2_with (go_quiet (fail))
      go_end0
      refine ⟨rfl, ?_⟩
      rw [HE.out, bl_end _ _ _ (by omega)]
      exact HR.out.drew _

end Go.Proofs.Ythmhbhlkbihdbaa
