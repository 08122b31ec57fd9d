/- Fields are put in order: SortStableFunc. -/
import Derived.Test.YtcelpmojhjnggaaI21
import Derived.Deep.Cut
import Derived.Deep.DeepCutAuto
import Derived.Deep.RegionHeld3
import Derived.BigRegion
namespace Go.Proofs.Ytcelpmojhjnggaa
open Go Go.RowKit Go.Sort Go.Deep KindsP
set_option maxHeartbeats 4000000
set_option maxRecDepth 100000

theorem sym_any (N : Nat) : SymAt N := by
  induction N with
  | zero => intro d w0 w g n c a m b P A B Q hN _ _ _ h; omega
  | succ N ih =>
    intro d w0 w g n c a m b P A B Q hN hP hm hb h0 h0' hsA hsB hnm hn hr
    by_cases h1 : A.length = 1
    · obtain ⟨x, rfl⟩ := List.length_eq_one_iff.1 h1
      exact one77 d w0 w g n c a m b P B Q x hP (by rw [hm, h1]) hb hsB hnm hn (by simpa using hr)
    · by_cases h2 : B.length = 1
      · obtain ⟨y, rfl⟩ := List.length_eq_one_iff.1 h2
        exact two77 d w0 w g n c a m b A.length P A Q y hP rfl (by omega) hm (by rw [hb, h2]) hsA hnm hn (by simpa using hr)
      · exact sym_x N ih d w0 w g n c a m b A.length B.length P A B Q hN hP rfl rfl hm hb (by omega) (by omega) hsA hsB hnm hn hr
/-- c parts of k elements each, from o on, each in order -/
def fseg (k : Nat) (L : List Fld) : Nat → Nat → List Fld
  | _, 0 => []
  | o, c + 1 => isort ltF ((L.drop o).take k) ++ fseg k L (o + k) c
theorem fseg_add (k : Nat) (L : List Fld) : ∀ (c1 c2 o : Nat), fseg k L o (c1 + c2) = fseg k L o c1 ++ fseg k L (o + c1 * k) c2
  | 0, c2, o => by rw [Nat.zero_add, Nat.zero_mul, Nat.add_zero, fseg]; rfl
  | c1 + 1, c2, o => by
    rw [show c1 + 1 + c2 = (c1 + c2) + 1 by omega, fseg, fseg, fseg_add k L c1 c2 (o + k), Nat.succ_mul, show o + (c1 * k + k) = o + k + c1 * k by omega, List.append_assoc]
theorem fseg_snoc (k : Nat) (L : List Fld) (c o : Nat) : fseg k L o (c + 1) = fseg k L o c ++ isort ltF ((L.drop (o + c * k)).take k) := by
  rw [fseg_add, fseg, fseg, List.append_nil]
theorem fseg_length (k : Nat) (L : List Fld) : ∀ (c o : Nat), o + c * k ≤ L.length → (fseg k L o c).length = c * k
  | 0, o, _ => by rw [fseg]; simp
  | c + 1, o, h => by
    rw [Nat.succ_mul] at h
    rw [fseg, List.length_append, isort_length, List.length_take, List.length_drop, fseg_length k L c (o + k) (by omega), Nat.succ_mul]
    omega
theorem isort_two (k : Nat) (L : List Fld) (o : Nat) : mrg ltF (isort ltF ((L.drop o).take k)) (isort ltF ((L.drop (o + k)).take k)) = isort ltF ((L.drop o).take (2 * k)) := by
  rw [← isort_append ltF weakF]
  congr 1
  rw [show 2 * k = k + k by omega, List.take_add, List.drop_drop]
theorem isort_rest (k : Nat) (L : List Fld) (o : Nat) : mrg ltF (isort ltF ((L.drop o).take k)) (isort ltF (L.drop (o + k))) = isort ltF (L.drop o) := by
  rw [← isort_append ltF weakF, ← List.drop_drop, List.take_append_drop]
theorem isort_nil : isort ltF [] = [] := rfl
theorem stable70_any (d : Nat) (w0 w : World) (g n c : Nat) (L : List Fld) (hn : L.length = n) (hnm : n ≤ 1000000) (hr : FRow w0 d w g L) :
    Calls Try.prog 70 #[.slice (some ⟨g, 0, none⟩) n c, .int .i64 n, fCmp] w (TurnPost w0 d w g (isort ltF L)) := by
  have HR := Lib.hid hr
  have HN := Lib.hid hn
  have hnm9 : n ≤ 1000000000 := by omega
  clear hr hn
  go_enter Try.func70, Try.ntmps70
  go_wp2_with fail
  go_loopw [7, 8] (fun av bv wr => ∃ a b q : Nat, Hid (a = q * 20) ∧ b = a + 20 ∧ a ≤ n ∧ av = .int .i64 a ∧ bv = .int .i64 b ∧ Aside g g w wr ∧ FRow w0 d wr g (fseg 20 L 0 q ++ L.drop a)) (fun _ bv _ => n + 20 - (intOf bv).toNat)
  case atStart => exact ⟨0, 20, 0, Lib.hid (by omega), by omega, Nat.zero_le _, rfl, rfl, Aside.refl _ _ _, by rw [fseg]; exact HR.out⟩
  case round =>
    obtain ⟨a, b, q, HAQ, hab, han, rfl, rfl, has, hrow⟩ := hrel
    have HAS := Lib.hid has
    have HLQ := Lib.hid (show (fseg 20 L 0 q).length = a by rw [fseg_length 20 L q 0 (by rw [HN.out]; have := HAQ.out; omega)]; exact HAQ.out.symm)
    by_cases hlt : b ≤ n
    · have HD := Lib.hid (show L.drop a = (L.drop a).take 20 ++ L.drop b by rw [hab, ← List.drop_drop, List.take_append_drop])
      have HSN := Lib.hid (show fseg 20 L 0 (q + 1) = fseg 20 L 0 q ++ isort ltF ((L.drop a).take 20) by rw [fseg_snoc, Nat.zero_add, ← HAQ.out])
      have HC := Lib.hid (ins76_any d w0 wr g n c a b (fseg 20 L 0 q) ((L.drop a).take 20) (L.drop b) (by simp; rw [HLQ.out, HN.out]; omega) HLQ.out (by rw [List.length_take, List.length_drop, HN.out]; omega) hnm9 (by rw [List.append_assoc, ← HD.out]; exact hrow))
      have HABE := Lib.hid hab
      clear has hrow hab
      go_wp2_with (first | (go_at_call 76; refine HC.out.mono ?_; rintro e w2 ⟨⟨u, rfl⟩, hr2, ha2⟩; have HR2 := Lib.hid hr2; have HA2 := Lib.hid ha2; clear hr2 ha2))
      refine ⟨⟨b, b + 20, q + 1, Lib.hid (by have := HAQ.out; have := HABE.out; omega), rfl, hlt, rfl, by go_num, HAS.out.trans HA2.out, ?_⟩, by simp [intOf]; omega⟩
      rw [HSN.out]
      exact HR2.out
    · have HC := Lib.hid (ins76_any d w0 wr g n c a n (fseg 20 L 0 q) (L.drop a) [] (by simp; rw [HLQ.out, HN.out]; omega) HLQ.out (by rw [List.length_drop, HN.out]; omega) hnm9 (by rw [List.append_nil]; exact hrow))
      have hna : n < a + 20 := by omega
      have HAS1 := HAS
      clear has hrow hab HAS HLQ
      go_wp2_with (first | (go_at_call 76; refine HC.out.mono ?_; rintro e w2 ⟨⟨u, rfl⟩, hr2, ha2⟩; have HR2 := Lib.hid hr2; have HA2 := Lib.hid ha2; clear hr2 ha2))
      have HAS2 := Lib.hid (HAS1.out.trans HA2.out)
      have HROW2 := Lib.hid (show FRow w0 d w2 g (fseg 20 L 0 q ++ isort ltF (L.drop a)) by have := HR2.out; rwa [List.append_nil] at this)
      clear HA2 HR2 HAS1 HC
      go_loopw [6] (fun sv wr => ∃ s q a : Nat, Hid (a = q * s) ∧ a ≤ n ∧ Hid (n < a + s) ∧ 20 ≤ s ∧ sv = .int .i64 s ∧ Aside g g w wr ∧ FRow w0 d wr g (fseg s L 0 q ++ isort ltF (L.drop a))) (fun sv _ => n - (intOf sv).toNat)
      case atStart => exact ⟨20, q, a, HAQ, han, Lib.hid hna, by omega, rfl, HAS2.out, HROW2.out⟩
      case round =>
        obtain ⟨s, q, a, HAQ, han, HNA, hs20, rfl, has, hrow⟩ := hrel
        have HAS := Lib.hid has
        have HROW := Lib.hid hrow
        clear has hrow
        by_cases hsn : s < n
        · have HAS3 := HAS
          have HROW3 := HROW
          clear HAS HROW
          obtain ⟨ss, hss⟩ : ∃ ss, ss = 2 * s := ⟨_, rfl⟩
          have hws : IntKind.i64.wrap (2 * (s : Int)) = (ss : Int) := by rw [IntWalk.i64_left, IntWalk.wrap64_in _ (by omega)]; omega
          have hws2 : IntKind.i64.wrap ((s : Int) * 2) = (ss : Int) := by rw [IntWalk.i64_left, IntWalk.wrap64_in _ (by omega)]; omega
          have hssn : ss ≤ 2000000 := by omega
          have hss0 : 0 < ss := by omega
          have hs2 : s < ss := by omega
          have HSS := Lib.hid hss
          clear hss
          go_wp2_with fail
          go_loopw [7, 8] (fun av bv wr => ∃ x b p r : Nat, Hid (x = p * ss) ∧ b = x + ss ∧ Hid (q = 2 * p + r) ∧ x ≤ n ∧ av = .int .i64 x ∧ bv = .int .i64 b ∧ Aside g g w wr ∧ FRow w0 d wr g (fseg ss L 0 p ++ (fseg s L x r ++ isort ltF (L.drop a)))) (fun _ bv _ => n + ss - (intOf bv).toNat)
          case atStart => exact ⟨0, ss, 0, q, Lib.hid (by omega), by omega, Lib.hid (by omega), Nat.zero_le _, rfl, by go_num, HAS3.out, by rw [show fseg ss L 0 0 = [] from rfl]; exact HROW3.out⟩
          case round =>
            obtain ⟨x, b, p, r, HXP, hxb, HQR, hxn, rfl, rfl, has, hrow⟩ := hrel
            have HAS := Lib.hid has
            have HXR := Lib.hid (show a = x + r * s by
              have h1 := HAQ.out; have h2 := HXP.out; have h3 := HQR.out; have h4 := HSS.out
              rw [h1, h2, h3, h4, Nat.add_mul, show 2 * p * s = p * (2 * s) by rw [Nat.mul_comm 2 p, Nat.mul_assoc]])
            have HLP := Lib.hid (show (fseg ss L 0 p).length = x by rw [fseg_length ss L p 0 (by rw [HN.out]; have := HXP.out; omega)]; exact HXP.out.symm)
            obtain ⟨xs, hxs⟩ : ∃ xs, xs = x + s := ⟨_, rfl⟩
            have hwx : IntKind.i64.wrap ((x : Int) + (s : Int)) = (xs : Int) := by rw [IntWalk.i64_left, IntWalk.wrap64_in _ (by omega)]; omega
            by_cases hlt : b ≤ n
            · obtain ⟨r', hr'⟩ : ∃ r', r = r' + 2 := by
                have h1 := HXR.out; have h2 := HNA.out; have h4 := HSS.out
                rcases Nat.lt_or_ge r 2 with h | h
                · exfalso
                  obtain rfl | rfl : r = 0 ∨ r = 1 := by omega
                  · omega
                  · omega
                · exact ⟨r - 2, by omega⟩
              have HF := Lib.hid (show fseg s L x r = isort ltF ((L.drop x).take s) ++ (isort ltF ((L.drop xs).take s) ++ fseg s L b r') by rw [hr', fseg, fseg, hxs, hxb, HSS.out, show x + 2 * s = x + s + s by omega])
              have HSN := Lib.hid (show fseg ss L 0 (p + 1) = fseg ss L 0 p ++ mrg ltF (isort ltF ((L.drop x).take s)) (isort ltF ((L.drop xs).take s)) by rw [fseg_snoc, Nat.zero_add, ← HXP.out, hxs, isort_two, ← HSS.out])
              have l1 := Lib.hid (show (isort ltF ((L.drop x).take s)).length = s by rw [isort_length, List.length_take, List.length_drop, HN.out]; have := HSS.out; omega)
              have l2 := Lib.hid (show (isort ltF ((L.drop xs).take s)).length = s by rw [isort_length, List.length_take, List.length_drop, HN.out]; have := HSS.out; omega)
              have HC := Lib.hid (sym_any _ d w0 wr g n c x xs b (fseg ss L 0 p) (isort ltF ((L.drop x).take s)) (isort ltF ((L.drop xs).take s)) (fseg s L b r' ++ isort ltF (L.drop a)) (Nat.le_refl _) HLP.out (by rw [l1.out]; exact hxs) (by rw [l2.out, hxs, hxb, HSS.out]; omega) (by rw [l1.out]; omega) (by rw [l2.out]; omega) (isort_srt weakF _) (isort_srt weakF _) hnm9 hlt (by rw [HF.out] at hrow; simpa only [List.append_assoc] using hrow))
              have HXB := Lib.hid hxb
              have HRR := Lib.hid hr'
              clear has hrow hxb hxs hr'
              go_wp2_with (first | (go_at_call 77; refine HC.out.mono ?_; rintro e w2 ⟨⟨u, rfl⟩, hr2, ha2⟩; have HR2 := Lib.hid hr2; have HA2 := Lib.hid ha2; clear hr2 ha2))
              refine ⟨⟨b, b + ss, p + 1, r', Lib.hid (by rw [HXB.out, HXP.out, Nat.succ_mul]), rfl, Lib.hid (by have := HQR.out; have := HRR.out; omega), hlt, rfl, by go_num, HAS.out.trans HA2.out, ?_⟩, by simp [intOf]; have := HXB.out; omega⟩
              rw [HSN.out]
              have := HR2.out
              simpa only [List.append_assoc] using this
            · have hr1 : r = 0 ∨ r = 1 := by
                rcases Nat.lt_or_ge r 2 with h | h
                · omega
                · exfalso
                  obtain ⟨r', rfl⟩ : ∃ r', r = r' + 2 := ⟨r - 2, by omega⟩
                  have h1 := HXR.out
                  have h4 := HSS.out
                  rw [Nat.add_mul] at h1
                  have : 0 ≤ r' * s := Nat.zero_le _
                  omega
              have hxsn : n < x + ss := by omega
              have HXB := Lib.hid hxb
              by_cases hm : xs < n
              · have hr2 : r = 1 := by
                  rcases hr1 with rfl | rfl
                  · exfalso; have h1 := HXR.out; have h2 := HNA.out; omega
                  · rfl
                have HF := Lib.hid (show fseg s L x r = isort ltF ((L.drop x).take s) by rw [hr2, fseg, fseg, List.append_nil])
                have HAX := Lib.hid (show a = xs by have := HXR.out; rw [hr2] at this; omega)
                have l1 := Lib.hid (show (isort ltF ((L.drop x).take s)).length = s by rw [isort_length, List.length_take, List.length_drop, HN.out]; omega)
                have l2 := Lib.hid (show (isort ltF (L.drop a)).length = n - xs by rw [isort_length, List.length_drop, HN.out, HAX.out])
                have HG := Lib.hid (show mrg ltF (isort ltF ((L.drop x).take s)) (isort ltF (L.drop a)) = isort ltF (L.drop x) by rw [HAX.out, hxs]; exact isort_rest s L x)
                have HC := Lib.hid (sym_any _ d w0 wr g n c x xs n (fseg ss L 0 p) (isort ltF ((L.drop x).take s)) (isort ltF (L.drop a)) [] (Nat.le_refl _) HLP.out (by rw [l1.out]; exact hxs) (by rw [l2.out]; omega) (by rw [l1.out]; omega) (by rw [l2.out]; omega) (isort_srt weakF _) (isort_srt weakF _) hnm9 (Nat.le_refl _) (by rw [HF.out] at hrow; simpa only [List.append_assoc, List.append_nil] using hrow))
                clear has hrow hxb hxs hr1 hr2
                go_wp2_with (first | (go_at_call 77; refine HC.out.mono ?_; rintro e w2 ⟨⟨u, rfl⟩, hr2, ha2⟩; have HR2 := Lib.hid hr2; have HA2 := Lib.hid ha2; clear hr2 ha2))
                refine ⟨⟨ss, p, x, HXP, hxn, Lib.hid hxsn, by omega, by go_num, HAS.out.trans HA2.out, ?_⟩, by simp [intOf]; omega⟩
                have := HR2.out
                rw [HG.out, List.append_nil] at this
                exact this
              · have HG := Lib.hid (show fseg s L x r ++ isort ltF (L.drop a) = isort ltF (L.drop x) by
                  rcases hr1 with rfl | rfl
                  · have h1 := HXR.out
                    rw [show a = x by omega]; rfl
                  · have h1 := HXR.out
                    have e1 : L.drop a = [] := List.drop_eq_nil_of_le (by rw [HN.out]; omega)
                    rw [fseg, fseg, List.append_nil, List.take_of_length_le (by rw [List.length_drop, HN.out]; omega), e1, isort_nil, List.append_nil])
                have HROW := Lib.hid hrow
                clear has hrow hxb hxs hr1
                go_wp2_with fail
                refine ⟨⟨ss, p, x, HXP, hxn, Lib.hid hxsn, by omega, by go_num, HAS.out, ?_⟩, by simp [intOf]; omega⟩
                have := HROW.out
                rw [HG.out] at this
                exact this
        · have HG := Lib.hid (show fseg s L 0 q ++ isort ltF (L.drop a) = isort ltF L by
            have h1 := HAQ.out
            cases q with
            | zero => rw [show a = 0 by omega]; rfl
            | succ q =>
              cases q with
              | zero =>
                have h2 : a = s := by omega
                have h3 : n = s := by omega
                have e1 : L.drop a = [] := List.drop_eq_nil_of_le (by rw [HN.out]; omega)
                rw [fseg, fseg, List.append_nil, e1, List.drop_zero, List.take_of_length_le (by rw [HN.out]; omega), isort_nil, List.append_nil]
              | succ q =>
                exfalso
                rw [Nat.succ_mul, Nat.succ_mul] at h1
                have : 0 ≤ q * s := Nat.zero_le _
                omega)
          go_wp2_with fail
          go_end0
          refine ⟨⟨_, rfl⟩, ?_, HAS.out⟩
          rw [← HG.out]
          exact HROW.out
theorem sort54_any (d : Nat) (w0 w : World) (g n c : Nat) (L : List Fld) (hn : L.length = n) (hnm : n ≤ 1000000) (hr : FRow w0 d w g L) :
    Calls Try.prog 54 #[.slice (some ⟨g, 0, none⟩) n c, fCmp] w (TurnPost w0 d w g (isort ltF L)) := by
  have HC := Lib.hid (stable70_any d w0 w g n c L hn hnm hr)
  clear hr hn
  go_enter Try.func54, Try.ntmps54
  go_wp2_with (first | (go_at_call 70; refine HC.out.mono ?_; rintro e w2 ⟨⟨u, rfl⟩, hr2, ha2⟩; have HR2 := Lib.hid hr2; have HA2 := Lib.hid ha2; clear hr2 ha2))
  go_end0
  exact ⟨⟨_, rfl⟩, HR2.out, HA2.out⟩
end Go.Proofs.Ytcelpmojhjnggaa
