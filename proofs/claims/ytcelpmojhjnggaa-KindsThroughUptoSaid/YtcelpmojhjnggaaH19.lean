/- Fields are put in order: SortStableFunc. -/
import Derived.Test.YtcelpmojhjnggaaH18
import Derived.Deep.Cut
import Derived.Deep.DeepCutAuto
import Derived.Deep.RegionHeld3
import Derived.BigRegion
import Derived.Deep.AppendLies
import Derived.Deep.QuietTactic
import Derived.BigQuiet
namespace Go.Proofs.Ytcelpmojhjnggaa
open Go Go.RowKit Go.Sort Go.Deep KindsP
set_option maxHeartbeats 4000000
set_option maxRecDepth 100000

theorem sym_any (N : Nat) : SymAt N := by
  induction N with
  | zero => intro d w0 w g n c a m b P A B Q hN _ _ _ h; omega
  | succ N ih =>
    intro d w0 w g n c a m b P A B Q hN hP hm hb h0 h0' hsA hsB hnm hn hr
    by_cases h1 : A.length = 1
    · obtain ⟨x, rfl⟩ := List.length_eq_one_iff.1 h1
      exact one77 d w0 w g n c a m b P B Q x hP (by rw [hm, h1]) hb hsB hnm hn (by simpa using hr)
    · by_cases h2 : B.length = 1
      · obtain ⟨y, rfl⟩ := List.length_eq_one_iff.1 h2
        exact two77 d w0 w g n c a m b A.length P A Q y hP rfl (by omega) hm (by rw [hb, h2]) hsA hnm hn (by simpa using hr)
      · exact sym_x N ih d w0 w g n c a m b A.length B.length P A B Q hN hP rfl rfl hm hb (by omega) (by omega) hsA hsB hnm hn hr
/-- c parts of k elements each, from o on, each in order -/
def fseg (k : Nat) (L : List Fld) : Nat → Nat → List Fld
  | _, 0 => []
  | o, c + 1 => isort ltF ((L.drop o).take k) ++ fseg k L (o + k) c
theorem fseg_add (k : Nat) (L : List Fld) : ∀ (c1 c2 o : Nat), fseg k L o (c1 + c2) = fseg k L o c1 ++ fseg k L (o + c1 * k) c2
  | 0, c2, o => by rw [Nat.zero_add, Nat.zero_mul, Nat.add_zero, fseg]; rfl
  | c1 + 1, c2, o => by
    rw [show c1 + 1 + c2 = (c1 + c2) + 1 by omega, fseg, fseg, fseg_add k L c1 c2 (o + k), Nat.succ_mul, show o + (c1 * k + k) = o + k + c1 * k by omega, List.append_assoc]
theorem fseg_snoc (k : Nat) (L : List Fld) (c o : Nat) : fseg k L o (c + 1) = fseg k L o c ++ isort ltF ((L.drop (o + c * k)).take k) := by
  rw [fseg_add, fseg, fseg, List.append_nil]
theorem fseg_length (k : Nat) (L : List Fld) : ∀ (c o : Nat), o + c * k ≤ L.length → (fseg k L o c).length = c * k
  | 0, o, _ => by rw [fseg]; simp
  | c + 1, o, h => by
    rw [Nat.succ_mul] at h
    rw [fseg, List.length_append, isort_length, List.length_take, List.length_drop, fseg_length k L c (o + k) (by omega), Nat.succ_mul]
    omega
theorem isort_two (k : Nat) (L : List Fld) (o : Nat) : mrg ltF (isort ltF ((L.drop o).take k)) (isort ltF ((L.drop (o + k)).take k)) = isort ltF ((L.drop o).take (2 * k)) := by
  rw [← isort_append ltF weakF]
  congr 1
  rw [show 2 * k = k + k by omega, List.take_add, List.drop_drop]
theorem isort_rest (k : Nat) (L : List Fld) (o : Nat) : mrg ltF (isort ltF ((L.drop o).take k)) (isort ltF (L.drop (o + k))) = isort ltF (L.drop o) := by
  rw [← isort_append ltF weakF, ← List.drop_drop, List.take_append_drop]
theorem isort_nil : isort ltF [] = [] := rfl
theorem stable70_any (d : Nat) (w0 w : World) (g n c : Nat) (L : List Fld) (hn : L.length = n) (hnm : n ≤ 1000000) (hr : FRow w0 d w g L) :
    Calls Try.prog 70 #[.slice (some ⟨g, 0, none⟩) n c, .int .i64 n, fCmp] w (TurnPost w0 d w g (isort ltF L)) := by
  have HR := Lib.hid hr
  have HN := Lib.hid hn
  have hnm9 : n ≤ 1000000000 := by omega
  clear hr hn
  go_enter Try.func70, Try.ntmps70
  go_wp2_with fail
  go_loopw [7, 8] (fun av bv wr => ∃ a b q : Nat, Hid (a = q * 20) ∧ b = a + 20 ∧ a ≤ n ∧ av = .int .i64 a ∧ bv = .int .i64 b ∧ Aside g g w wr ∧ FRow w0 d wr g (fseg 20 L 0 q ++ L.drop a)) (fun _ bv _ => n + 20 - (intOf bv).toNat)
  case atStart => exact ⟨0, 20, 0, Lib.hid (by omega), by omega, Nat.zero_le _, rfl, rfl, Aside.refl _ _ _, by rw [fseg]; exact HR.out⟩
  case round =>
    obtain ⟨a, b, q, HAQ, hab, han, rfl, rfl, has, hrow⟩ := hrel
    have HAS := Lib.hid has
    have HLQ := Lib.hid (show (fseg 20 L 0 q).length = a by rw [fseg_length 20 L q 0 (by rw [HN.out]; have := HAQ.out; omega)]; exact HAQ.out.symm)
    by_cases hlt : b ≤ n
    · have HD := Lib.hid (show L.drop a = (L.drop a).take 20 ++ L.drop b by rw [hab, ← List.drop_drop, List.take_append_drop])
      have HSN := Lib.hid (show fseg 20 L 0 (q + 1) = fseg 20 L 0 q ++ isort ltF ((L.drop a).take 20) by rw [fseg_snoc, Nat.zero_add, ← HAQ.out])
      have HC := Lib.hid (ins76_any d w0 wr g n c a b (fseg 20 L 0 q) ((L.drop a).take 20) (L.drop b) (by simp; rw [HLQ.out, HN.out]; omega) HLQ.out (by rw [List.length_take, List.length_drop, HN.out]; omega) hnm9 (by rw [List.append_assoc, ← HD.out]; exact hrow))
      have HABE := Lib.hid hab
      clear has hrow hab
      go_wp2_with (first | (go_at_call 76; refine HC.out.mono ?_; rintro e w2 ⟨⟨u, rfl⟩, hr2, ha2⟩; have HR2 := Lib.hid hr2; have HA2 := Lib.hid ha2; clear hr2 ha2))
      refine ⟨⟨b, b + 20, q + 1, Lib.hid (by have := HAQ.out; have := HABE.out; omega), rfl, hlt, rfl, by go_num, HAS.out.trans HA2.out, ?_⟩, by simp [intOf]; omega⟩
      rw [HSN.out]
      exact HR2.out
    · have HC := Lib.hid (ins76_any d w0 wr g n c a n (fseg 20 L 0 q) (L.drop a) [] (by simp; rw [HLQ.out, HN.out]; omega) HLQ.out (by rw [List.length_drop, HN.out]; omega) hnm9 (by rw [List.append_nil]; exact hrow))
      have hna : n < a + 20 := by omega
      have HAS1 := HAS
      clear has hrow hab HAS HLQ
      go_wp2_with (first | (go_at_call 76; refine HC.out.mono ?_; rintro e w2 ⟨⟨u, rfl⟩, hr2, ha2⟩; have HR2 := Lib.hid hr2; have HA2 := Lib.hid ha2; clear hr2 ha2))
      have HAS2 := Lib.hid (HAS1.out.trans HA2.out)
      have HROW2 := Lib.hid (show FRow w0 d w2 g (fseg 20 L 0 q ++ isort ltF (L.drop a)) by have := HR2.out; rwa [List.append_nil] at this)
      clear HA2 HR2 HAS1 HC
      go_loopw [6] (fun sv wr => ∃ s q a : Nat, Hid (a = q * s) ∧ a ≤ n ∧ Hid (n < a + s) ∧ 20 ≤ s ∧ sv = .int .i64 s ∧ Aside g g w wr ∧ FRow w0 d wr g (fseg s L 0 q ++ isort ltF (L.drop a))) (fun sv _ => n - (intOf sv).toNat)
      case atStart => exact ⟨20, q, a, HAQ, han, Lib.hid hna, by omega, rfl, HAS2.out, HROW2.out⟩
      case round =>
        obtain ⟨s, q, a, HAQ, han, HNA, hs20, rfl, has, hrow⟩ := hrel
        have HAS := Lib.hid has
        have HROW := Lib.hid hrow
        clear has hrow
        by_cases hsn : s < n
        · have HAS3 := HAS
          have HROW3 := HROW
          clear HAS HROW
          obtain ⟨ss, hss⟩ : ∃ ss, ss = 2 * s := ⟨_, rfl⟩
          have hws : IntKind.i64.wrap (2 * (s : Int)) = (ss : Int) := by rw [IntWalk.i64_left, IntWalk.wrap64_in _ (by omega)]; omega
          have hws2 : IntKind.i64.wrap ((s : Int) * 2) = (ss : Int) := by rw [IntWalk.i64_left, IntWalk.wrap64_in _ (by omega)]; omega
          have hssn : ss ≤ 2000000 := by omega
          have hss0 : 0 < ss := by omega
          have hs2 : s < ss := by omega
          have HSS := Lib.hid hss
          clear hss
          go_wp2_with fail
          go_loopw [7, 8] (fun av bv wr => ∃ x b p r : Nat, Hid (x = p * ss) ∧ b = x + ss ∧ Hid (q = 2 * p + r) ∧ x ≤ n ∧ av = .int .i64 x ∧ bv = .int .i64 b ∧ Aside g g w wr ∧ FRow w0 d wr g (fseg ss L 0 p ++ (fseg s L x r ++ isort ltF (L.drop a)))) (fun _ bv _ => n + ss - (intOf bv).toNat)
          case atStart => exact ⟨0, ss, 0, q, Lib.hid (by omega), by omega, Lib.hid (by omega), Nat.zero_le _, rfl, by go_num, HAS3.out, by rw [show fseg ss L 0 0 = [] from rfl]; exact HROW3.out⟩
          case round =>
            obtain ⟨x, b, p, r, HXP, hxb, HQR, hxn, rfl, rfl, has, hrow⟩ := hrel
            have HAS := Lib.hid has
            have HXR := Lib.hid (show a = x + r * s by
              have h1 := HAQ.out; have h2 := HXP.out; have h3 := HQR.out; have h4 := HSS.out
              rw [h1, h2, h3, h4, Nat.add_mul, show 2 * p * s = p * (2 * s) by rw [Nat.mul_comm 2 p, Nat.mul_assoc]])
            have HLP := Lib.hid (show (fseg ss L 0 p).length = x by rw [fseg_length ss L p 0 (by rw [HN.out]; have := HXP.out; omega)]; exact HXP.out.symm)
            obtain ⟨xs, hxs⟩ : ∃ xs, xs = x + s := ⟨_, rfl⟩
            have hwx : IntKind.i64.wrap ((x : Int) + (s : Int)) = (xs : Int) := by rw [IntWalk.i64_left, IntWalk.wrap64_in _ (by omega)]; omega
            by_cases hlt : b ≤ n
            · obtain ⟨r', hr'⟩ : ∃ r', r = r' + 2 := by
                have h1 := HXR.out; have h2 := HNA.out; have h4 := HSS.out
                rcases Nat.lt_or_ge r 2 with h | h
                · exfalso
                  obtain rfl | rfl : r = 0 ∨ r = 1 := by omega
                  · omega
                  · omega
                · exact ⟨r - 2, by omega⟩
              have HF := Lib.hid (show fseg s L x r = isort ltF ((L.drop x).take s) ++ (isort ltF ((L.drop xs).take s) ++ fseg s L b r') by rw [hr', fseg, fseg, hxs, hxb, HSS.out, show x + 2 * s = x + s + s by omega])
              have HSN := Lib.hid (show fseg ss L 0 (p + 1) = fseg ss L 0 p ++ mrg ltF (isort ltF ((L.drop x).take s)) (isort ltF ((L.drop xs).take s)) by rw [fseg_snoc, Nat.zero_add, ← HXP.out, hxs, isort_two, ← HSS.out])
              have l1 := Lib.hid (show (isort ltF ((L.drop x).take s)).length = s by rw [isort_length, List.length_take, List.length_drop, HN.out]; have := HSS.out; omega)
              have l2 := Lib.hid (show (isort ltF ((L.drop xs).take s)).length = s by rw [isort_length, List.length_take, List.length_drop, HN.out]; have := HSS.out; omega)
              have HC := Lib.hid (sym_any _ d w0 wr g n c x xs b (fseg ss L 0 p) (isort ltF ((L.drop x).take s)) (isort ltF ((L.drop xs).take s)) (fseg s L b r' ++ isort ltF (L.drop a)) (Nat.le_refl _) HLP.out (by rw [l1.out]; exact hxs) (by rw [l2.out, hxs, hxb, HSS.out]; omega) (by rw [l1.out]; omega) (by rw [l2.out]; omega) (isort_srt weakF _) (isort_srt weakF _) hnm9 hlt (by rw [HF.out] at hrow; simpa only [List.append_assoc] using hrow))
              have HXB := Lib.hid hxb
              have HRR := Lib.hid hr'
              clear has hrow hxb hxs hr'
              go_wp2_with (first | (go_at_call 77; refine HC.out.mono ?_; rintro e w2 ⟨⟨u, rfl⟩, hr2, ha2⟩; have HR2 := Lib.hid hr2; have HA2 := Lib.hid ha2; clear hr2 ha2))
              refine ⟨⟨b, b + ss, p + 1, r', Lib.hid (by rw [HXB.out, HXP.out, Nat.succ_mul]), rfl, Lib.hid (by have := HQR.out; have := HRR.out; omega), hlt, rfl, by go_num, HAS.out.trans HA2.out, ?_⟩, by simp [intOf]; have := HXB.out; omega⟩
              rw [HSN.out]
              have := HR2.out
              simpa only [List.append_assoc] using this
            · have hr1 : r = 0 ∨ r = 1 := by
                rcases Nat.lt_or_ge r 2 with h | h
                · omega
                · exfalso
                  obtain ⟨r', rfl⟩ : ∃ r', r = r' + 2 := ⟨r - 2, by omega⟩
                  have h1 := HXR.out
                  have h4 := HSS.out
                  rw [Nat.add_mul] at h1
                  have : 0 ≤ r' * s := Nat.zero_le _
                  omega
              have hxsn : n < x + ss := by omega
              have HXB := Lib.hid hxb
              by_cases hm : xs < n
              · have hr2 : r = 1 := by
                  rcases hr1 with rfl | rfl
                  · exfalso; have h1 := HXR.out; have h2 := HNA.out; omega
                  · rfl
                have HF := Lib.hid (show fseg s L x r = isort ltF ((L.drop x).take s) by rw [hr2, fseg, fseg, List.append_nil])
                have HAX := Lib.hid (show a = xs by have := HXR.out; rw [hr2] at this; omega)
                have l1 := Lib.hid (show (isort ltF ((L.drop x).take s)).length = s by rw [isort_length, List.length_take, List.length_drop, HN.out]; omega)
                have l2 := Lib.hid (show (isort ltF (L.drop a)).length = n - xs by rw [isort_length, List.length_drop, HN.out, HAX.out])
                have HG := Lib.hid (show mrg ltF (isort ltF ((L.drop x).take s)) (isort ltF (L.drop a)) = isort ltF (L.drop x) by rw [HAX.out, hxs]; exact isort_rest s L x)
                have HC := Lib.hid (sym_any _ d w0 wr g n c x xs n (fseg ss L 0 p) (isort ltF ((L.drop x).take s)) (isort ltF (L.drop a)) [] (Nat.le_refl _) HLP.out (by rw [l1.out]; exact hxs) (by rw [l2.out]; omega) (by rw [l1.out]; omega) (by rw [l2.out]; omega) (isort_srt weakF _) (isort_srt weakF _) hnm9 (Nat.le_refl _) (by rw [HF.out] at hrow; simpa only [List.append_assoc, List.append_nil] using hrow))
                clear has hrow hxb hxs hr1 hr2
                go_wp2_with (first | (go_at_call 77; refine HC.out.mono ?_; rintro e w2 ⟨⟨u, rfl⟩, hr2, ha2⟩; have HR2 := Lib.hid hr2; have HA2 := Lib.hid ha2; clear hr2 ha2))
                refine ⟨⟨ss, p, x, HXP, hxn, Lib.hid hxsn, by omega, by go_num, HAS.out.trans HA2.out, ?_⟩, by simp [intOf]; omega⟩
                have := HR2.out
                rw [HG.out, List.append_nil] at this
                exact this
              · have HG := Lib.hid (show fseg s L x r ++ isort ltF (L.drop a) = isort ltF (L.drop x) by
                  rcases hr1 with rfl | rfl
                  · have h1 := HXR.out
                    rw [show a = x by omega]; rfl
                  · have h1 := HXR.out
                    have e1 : L.drop a = [] := List.drop_eq_nil_of_le (by rw [HN.out]; omega)
                    rw [fseg, fseg, List.append_nil, List.take_of_length_le (by rw [List.length_drop, HN.out]; omega), e1, isort_nil, List.append_nil])
                have HROW := Lib.hid hrow
                clear has hrow hxb hxs hr1
                go_wp2_with fail
                refine ⟨⟨ss, p, x, HXP, hxn, Lib.hid hxsn, by omega, by go_num, HAS.out, ?_⟩, by simp [intOf]; omega⟩
                have := HROW.out
                rw [HG.out] at this
                exact this
        · have HG := Lib.hid (show fseg s L 0 q ++ isort ltF (L.drop a) = isort ltF L by
            have h1 := HAQ.out
            cases q with
            | zero => rw [show a = 0 by omega]; rfl
            | succ q =>
              cases q with
              | zero =>
                have h2 : a = s := by omega
                have h3 : n = s := by omega
                have e1 : L.drop a = [] := List.drop_eq_nil_of_le (by rw [HN.out]; omega)
                rw [fseg, fseg, List.append_nil, e1, List.drop_zero, List.take_of_length_le (by rw [HN.out]; omega), isort_nil, List.append_nil]
              | succ q =>
                exfalso
                rw [Nat.succ_mul, Nat.succ_mul] at h1
                have : 0 ≤ q * s := Nat.zero_le _
                omega)
          go_wp2_with fail
          go_end0
          refine ⟨⟨_, rfl⟩, ?_, HAS.out⟩
          rw [← HG.out]
          exact HROW.out
theorem sort54_any (d : Nat) (w0 w : World) (g n c : Nat) (L : List Fld) (hn : L.length = n) (hnm : n ≤ 1000000) (hr : FRow w0 d w g L) :
    Calls Try.prog 54 #[.slice (some ⟨g, 0, none⟩) n c, fCmp] w (TurnPost w0 d w g (isort ltF L)) := by
  have HC := Lib.hid (stable70_any d w0 w g n c L hn hnm hr)
  clear hr hn
  go_enter Try.func54, Try.ntmps54
  go_wp2_with (first | (go_at_call 70; refine HC.out.mono ?_; rintro e w2 ⟨⟨u, rfl⟩, hr2, ha2⟩; have HR2 := Lib.hid hr2; have HA2 := Lib.hid ha2; clear hr2 ha2))
  go_end0
  exact ⟨⟨_, rfl⟩, HR2.out, HA2.out⟩
end Go.Proofs.Ytcelpmojhjnggaa

/- A row of fields that grows: the document's put. -/
namespace Go.Proofs.Ytcelpmojhjnggaa
open Go Go.RowKit Go.Sort Go.Deep KindsP
set_option maxHeartbeats 4000000
set_option maxRecDepth 100000

theorem Try.info52' : (Try.prog.info? 52).map (fun i => (i.zero, i.size, i.bytes)) = some (some (.agg #[.string ⟨#[]⟩, .int .i64 0, .string ⟨#[]⟩, .string ⟨#[]⟩, .slice none 0 0, .slice none 0 0]), 6, 104) := by kernel_rfl
/-- these cells are these fields -/
def FCells (w0 : World) (d : Nat) (cells : List Value) (l : List Fld) : Prop := ∀ k x, l[k]? = some x → ∃ c0 c1 c2 c3 c4 c5 : Value, cells[k * 6]? = some c0 ∧ cells[k * 6 + 1]? = some c1 ∧ cells[k * 6 + 2]? = some c2 ∧ cells[k * 6 + 3]? = some c3 ∧ cells[k * 6 + 4]? = some c4 ∧ cells[k * 6 + 5]? = some c5 ∧ LiesF w0 d [c0, c1, c2, c3, c4, c5] x
/-- a slice of one's own that holds these fields, whose types lie in the elder world w0 -/
def OwnF (w0 : World) (d : Nat) (w : World) (B : Nat) (v : Value) (l : List Fld) : Prop := ∃ cells, w.ownsRow B 52 6 v l.length cells ∧ FCells w0 d cells l
theorem FCells.snoc {w0 : World} {d : Nat} {cells : List Value} {l : List Fld} (h : FCells w0 d cells l) (hl : cells.length = l.length * 6) (c0 c1 c2 c3 c4 c5 : Value) (x : Fld) (hx : LiesF w0 d [c0, c1, c2, c3, c4, c5] x) : FCells w0 d (cells ++ [c0, c1, c2, c3, c4, c5]) (l ++ [x]) := by
  intro k y hy
  by_cases hk : k < l.length
  · rw [List.getElem?_append_left hk] at hy
    obtain ⟨d0, d1, d2, d3, d4, d5, e0, e1, e2, e3, e4, e5, hf⟩ := h k y hy
    exact ⟨d0, d1, d2, d3, d4, d5, by rw [List.getElem?_append_left (by omega)]; exact e0, by rw [List.getElem?_append_left (by omega)]; exact e1, by rw [List.getElem?_append_left (by omega)]; exact e2, by rw [List.getElem?_append_left (by omega)]; exact e3, by rw [List.getElem?_append_left (by omega)]; exact e4, by rw [List.getElem?_append_left (by omega)]; exact e5, hf⟩
  · have hkl : k = l.length := by
      have := (List.getElem?_eq_some_iff.1 hy).1
      simp at this; omega
    subst hkl
    rw [List.getElem?_append_right (Nat.le_refl _)] at hy
    simp at hy
    subst hy
    refine ⟨c0, c1, c2, c3, c4, c5, ?_, ?_, ?_, ?_, ?_, ?_, hx⟩ <;> (rw [List.getElem?_append_right (by omega)]; simp [hl])
theorem Below.six {w w' : World} {B g : Nat} (h : Below B w w') (hg : B ≤ g) (o : Nat) (t0 t1 t2 t3 t4 t5 : Value) : Below B w (six w' g o t0 t1 t2 t3 t4 t5) := (((((h.setCell (p := ⟨g, o, none⟩) hg _).setCell (p := ⟨g, o + 1, none⟩) hg _).setCell (p := ⟨g, o + 2, none⟩) hg _).setCell (p := ⟨g, o + 3, none⟩) hg _).setCell (p := ⟨g, o + 4, none⟩) hg _).setCell (p := ⟨g, o + 5, none⟩) hg _
/-- block g holds S cells of fields -/
def Sz (w : World) (g S : Nat) : Prop := ∃ cs : Array Value, w.heap[g]? = some (.cells cs 52 (0, 0)) ∧ cs.size = S
theorem Sz.set {w : World} {g S : Nat} (h : Sz w g S) (i : Nat) (v : Value) : Sz (w.setCell ⟨g, i, none⟩ v) g S := by
  obtain ⟨cs, h1, h2⟩ := h
  exact ⟨_, setAt v h1, by simp [h2]⟩
theorem Sz.six {w : World} {g S : Nat} (h : Sz w g S) (o : Nat) (t0 t1 t2 t3 t4 t5 : Value) : Sz (six w g o t0 t1 t2 t3 t4 t5) g S := (((((h.set _ _).set _ _).set _ _).set _ _).set _ _).set _ _
theorem Sz.keep {w w' : World} {g S : Nat} (h : Sz w g S) (hg : w'.heap[g]? = w.heap[g]?) : Sz w' g S := by
  obtain ⟨cs, h1, h2⟩ := h
  exact ⟨cs, hg.trans h1, h2⟩
theorem OwnF.row {w0 w : World} {d B g n c : Nat} {l : List Fld} (h : OwnF w0 d w B (.slice (some ⟨g, 0, none⟩) n c) l) (hB : w0.heap.size ≤ B) : n = l.length ∧ B ≤ g ∧ l.length ≤ c ∧ c ≤ maxLen ∧ FRow w0 d w g l ∧ Sz w g (c * 6) := by
  obtain ⟨cells, ⟨h1, h2⟩, hf⟩ := h
  rcases h2 with ⟨h2, _⟩ | ⟨g', cap, cur, e, hBg, hg, hnc, hcm, hsz, htk⟩
  · cases h2
  · simp only [Value.slice.injEq, Option.some.injEq, Addr.mk.injEq, and_true] at e
    obtain ⟨⟨rfl⟩, rfl, rfl⟩ := e
    refine ⟨rfl, hBg, hnc, hcm, ⟨Nat.le_trans hB hBg, cur, hg, fun k x hk => ?_⟩, ⟨cur, hg, hsz⟩⟩
    obtain ⟨c0, c1, c2, c3, c4, c5, e0, e1, e2, e3, e4, e5, hl⟩ := hf k x hk
    have key : ∀ (i : Nat) (u : Value), cells[i]? = some u → cur[i]? = some u := by
      intro i u hu
      rw [← htk] at hu
      have hi : i < l.length * 6 := by
        have := (List.getElem?_eq_some_iff.1 hu).1
        rw [List.length_take] at this; omega
      rw [List.getElem?_take_of_lt hi, Array.getElem?_toList] at hu
      exact hu
    exact ⟨c0, c1, c2, c3, c4, c5, key _ _ e0, key _ _ e1, key _ _ e2, key _ _ e3, key _ _ e4, key _ _ e5, hl⟩
theorem OwnF.of_row {w0 w : World} {d B g c : Nat} {l : List Fld} (hB : B ≤ g) (hc : l.length ≤ c) (hcm : c ≤ maxLen) (h : FRow w0 d w g l) (hs : Sz w g (c * 6)) : OwnF w0 d w B (.slice (some ⟨g, 0, none⟩) l.length c) l := by
  obtain ⟨_, cs, h1, h2⟩ := h
  obtain ⟨cs', h1', h3⟩ := hs
  rw [h1] at h1'
  simp only [Option.some.injEq, Obj.cells.injEq, and_true] at h1'
  subst h1'
  have hcl : cs.toList.length = c * 6 := by rw [Array.length_toList]; exact h3
  refine ⟨cs.toList.take (l.length * 6), ⟨by rw [List.length_take, hcl]; have := Nat.mul_le_mul_right 6 hc; omega, .inr ⟨g, c, cs, rfl, hB, h1, hc, hcm, h3, rfl⟩⟩, fun k x hk => ?_⟩
  obtain ⟨c0, c1, c2, c3, c4, c5, e0, e1, e2, e3, e4, e5, hl⟩ := h2 k x hk
  have hkl := (List.getElem?_eq_some_iff.1 hk).1
  have key : ∀ (j : Nat) (u : Value), j < l.length * 6 → cs[j]? = some u → (cs.toList.take (l.length * 6))[j]? = some u := by
    intro j u hj hu
    rw [List.getElem?_take_of_lt hj, Array.getElem?_toList]; exact hu
  exact ⟨c0, c1, c2, c3, c4, c5, key _ _ (by omega) e0, key _ _ (by omega) e1, key _ _ (by omega) e2, key _ _ (by omega) e3, key _ _ (by omega) e4, key _ _ (by omega) e5, hl⟩
theorem OwnF.nil (w0 : World) (d : Nat) (w : World) (B : Nat) : OwnF w0 d w B (.slice none 0 0) [] := ⟨[], World.ownsRow_nil _ _ _ _, fun k x h => by simp at h⟩
/-- what one who puts a field leaves -/
def PutPost (w0 : World) (d : Nat) (w : World) (B : Nat) (l : List Fld) (e : Ending) (w' : World) : Prop := Below B w w' ∧ ∃ v, e = .returned v ∧ OwnF w0 d w' B v l
theorem put59_any (d : Nat) (w0 w : World) (B : Nat) (v : Value) (l : List Fld) (f : Fld) (y0 : Int) (y1 y2 : ByteArray) (y3 : Option Addr) (y4 y5 : Nat) (y6 : Option Addr) (y7 y8 : Nat) (hB0 : w0.heap.size ≤ B) (hBw : B ≤ w.heap.size) (hn : l.length ≤ 1000000) (hs : Srt ltF l) (ho : OwnF w0 d w B v l) (hf : LiesF w0 d [.string f.name, .int .i64 y0, .string y1, .string y2, .slice y3 y4 y5, .slice y6 y7 y8] f) :
    Calls Try.prog 59 #[v, .agg #[.string f.name, .int .i64 y0, .string y1, .string y2, .slice y3 y4 y5, .slice y6 y7 y8]] w (PutPost w0 d w B (mrg ltF l [f])) := by
  obtain ⟨i9, hi9, hz90, hz91, hz92⟩ := info_parts Try.info52'
  obtain ⟨cells, hown, hcells⟩ := ho
  have HO := Lib.hid hown
  have HC := Lib.hid hcells
  have HFL := Lib.hid hf
  have HSR := Lib.hid hs
  obtain ⟨n, hnl⟩ : ∃ n, l.length = n := ⟨_, rfl⟩
  rw [hnl] at HO hn
  have HNL := Lib.hid hnl
  obtain ⟨ao, cap, rfl⟩ := own_shape HO.out
  clear hown hcells hf hs hnl
  go_enter Try.func59, Try.ntmps59
  go_wp2_with (first | (at_builtin; refine wpList_append_lies _ rfl (.tmp 7) (.tmp 9) 39 rfl B 52 i9 _ 6 104 Try.underlying39 hi9 hz90 hz91 hz92 rfl (by decide) _ n _ rfl ((own_below HO.out ((Below.refl _ _).alloc (Nat.le_refl _) _)).alloc _) ⟨w.heap.size + 1, 0, none⟩ 1 1 [.string f.name, .int .i64 y0, .string y1, .string y2, .slice y3 y4 y5, .slice y6 y7 y8] rfl rfl (World.news_of_block (cs := #[.string f.name, .int .i64 y0, .string y1, .string y2, .slice y3 y4 y5, .slice y6 y7 y8]) (t := 52) (fr := (0, 0)) (alloc_known2 (w := w) (cs := #[.string f.name, .int .i64 y0, .string y1, .string y2, .slice y3 y4 y5, .slice y6 y7 y8]) (ds := #[.string f.name, .int .i64 y0, .string y1, .string y2, .slice y3 y4 y5, .slice y6 y7 y8]) (t := 52) (u := 52) (fr := (0, 0)) (gr := (0, 0)) (Below.refl _ _)).2.1) (by simp [Value.oneCell']) (by omega) (by unfold maxLen; omega) (by omega) (by simp; omega) (w.heap.size + 1 + 1) (by simp) ?_; intro gg cp w3 hown3 hgrow hat hlt3; have HOW := Lib.hid hown3; have HG : Hid (((w.alloc (.cells #[.string f.name, .int .i64 y0, .string y1, .string y2, .slice y3 y4 y5, .slice y6 y7 y8] 52)).alloc (.cells #[.string f.name, .int .i64 y0, .string y1, .string y2, .slice y3 y4 y5, .slice y6 y7 y8] 52)).grownBy w3 (Value.slice ao n cap).ownBlock) := hgrow; clear hown3 hgrow hat hlt3; refine Hid.out ?_))
  refine Lib.hid ?_
  have HB3 := Lib.hid (show Below B w w3 from (((Below.refl _ _).alloc hBw _).alloc (by simp; omega) _).grown HG.out (by simp; omega) (fun g hg => (HO.out.lt g hg).1))
  have HOF : Hid (OwnF w0 d w3 B (.slice (some ⟨gg, 0, none⟩) (n + 1) cp) (l ++ [f])) := Lib.hid ⟨_, by rw [List.length_append, HNL.out]; exact HOW.out, HC.out.snoc (by rw [HO.out.1, HNL.out]) _ _ _ _ _ _ f HFL.out⟩
  obtain ⟨hne, hBg, hnc, hcm, hrow3, hsz3⟩ := HOF.out.row hB0
  have HNC := Lib.hid (show n + 1 ≤ cp by rw [List.length_append, HNL.out] at hnc; exact hnc)
  have HROW3 := Lib.hid hrow3
  have HSZ3 := Lib.hid hsz3
  have HCM := Lib.hid hcm
  clear hne hnc hrow3 hsz3 hcm HG HOW HOF HC HO
  go_wp2_with fail
  go_loopw [5] (fun iv wr => ∃ (i : Nat) (S1 S2 : List Fld), Hid (S1.length = i) ∧ i ≤ n ∧ Hid (l = S1 ++ S2) ∧ Hid (∀ s ∈ S2, ltF f s = true) ∧ iv = .int .i64 i ∧ Below B w wr ∧ Sz wr gg (cp * 6) ∧ FRow w0 d wr gg (S1 ++ f :: S2)) (fun iv _ => (intOf iv).toNat)
  case atStart => exact ⟨n, l, [], HNL, Nat.le_refl _, Lib.hid (by simp), Lib.hid (by simp), by go_num, HB3.out, HSZ3.out, HROW3.out⟩
  case round =>
    obtain ⟨i, S1, S2, HI, hin, HL, H2, rfl, hb, hsz, hrow⟩ := hrel
    have HB := Lib.hid hb
    have HSZ := Lib.hid hsz
    have HROW := Lib.hid hrow
    have HDONE := Lib.hid (fun (h1 : ∀ s, S1.getLast? = some s → ltF f s = false) => (show mrg ltF l [f] = S1 ++ f :: S2 by rw [HL.out]; exact ins_done S1 S2 f (by rw [← HL.out]; exact HSR.out) H2.out h1))
    have HLN := Lib.hid (show (S1 ++ f :: S2).length = n + 1 by have h1 := HNL.out; rw [HL.out, List.length_append] at h1; rw [List.length_append, List.length_cons]; omega)
    have HEND := Lib.hid (fun (W : World) (hr : FRow w0 d W gg (S1 ++ f :: S2)) (hz : Sz W gg (cp * 6)) => (show OwnF w0 d W B (.slice (some ⟨gg, 0, none⟩) (n + 1) cp) (S1 ++ f :: S2) by rw [← HLN.out]; exact OwnF.of_row hBg (by rw [HLN.out]; exact HNC.out) HCM.out hr hz))
    cases hl : S1.getLast? with
    | none =>
      rw [List.getLast?_eq_none_iff] at hl
      subst hl
      obtain rfl : i = 0 := by have := HI.out; simpa using this.symm
      have HG := Lib.hid (HDONE.out (fun s hs => by cases hs))
      have hdec : decide ((0 : Int) < 0) = false := by simp
      clear hb hsz hrow
      go_upto_region 3 with fail
      go_quiet (fail)
      go_wp2_with fail
      go_ret
      refine ⟨below_drewN HB.out _, _, rfl, ?_⟩
      rw [HG.out]
      exact HEND.out _ (HROW.out.below (below_drewN (Below.refl _ _) _)) (HSZ.out.keep rfl)
    | some s =>
      obtain ⟨S1', rfl⟩ := List.getLast?_eq_some_iff.1 hl
      obtain ⟨p, hp⟩ : ∃ p, S1'.length = p := ⟨_, rfl⟩
      have hip : i = p + 1 := by rw [← HI.out, ← hp]; simp
      have hE : (S1' ++ [s]) ++ f :: S2 = S1' ++ s :: ([] ++ f :: S2) := by simp
      rw [hE] at hrow
      obtain ⟨x0, x1, x2, x3, x4, x5, x6, x7, x8, ⟨f0, f1, f2, f3, f4, f5⟩, hlx⟩ := hrow.cell p s (by rw [← hp]; exact get_mid _ _ _)
      obtain ⟨z0, z1, z2, z3, z4, z5, z6, z7, z8, ⟨g0, g1, g2, g3, g4, g5⟩, hlz⟩ := hrow.cell i f (by rw [hip, ← hp, show S1'.length + 1 = (S1' ++ [s]).length by simp, show S1' ++ s :: ([] ++ f :: S2) = (S1' ++ [s]) ++ f :: S2 by simp]; exact get_mid _ _ _)
      have HSWP := Lib.hid (fun W (hb : Below wr.heap.size wr W) => swap_two (w := W) S1' [] S2 s f p i hp (by simp [hip]) (hrow.below hb) _ _ _ _ _ _ _ _ _ _ _ _ hlx hlz)
      have hgl := hrow.lt
      have fz := hrow.frozen
      have hw1 : IntKind.i64.wrap ((i : Int) - 1) = (p : Int) := by rw [IntWalk.i64_left, IntWalk.wrap64_in _ (by omega)]; omega
      have hw2 : wrap64 ((i : Int) - 1) = (p : Int) := by rw [IntWalk.wrap64_in _ (by omega)]; omega
      have hi0 : (0 : Int) < (i : Int) := by omega
      have hdec : decide ((0 : Int) < (i : Int)) = true := by simpa using hi0
      have hi0n : 0 < i := by omega
      have hdecn : decide (0 < i) = true := by simpa using hi0n
      have hi1 : (i : Int) < (n : Int) + 1 := by omega
      have hp0 : (0 : Int) ≤ (p : Int) := by omega
      have hp1 : (p : Int) < (n : Int) + 1 := by omega
      have hpi : p < i := by omega
      have HPI := Lib.hid hip
      have HPL := Lib.hid hp
      clear hb hsz hrow hE hl hip hp hlx hlz
      cases hfs : ltF f s
      · have HG := Lib.hid (HDONE.out (fun z hz => by rw [List.getLast?_append] at hz; simp at hz; rw [← hz]; exact hfs))
        have hbl : Op.bytesLess f.name.toList s.name.toList = false := hfs
        clear hfs
        go_upto_region 3 with fail
        go_quiet (fail)
        go_wp2_with fail
        go_ret
        refine ⟨below_drewN HB.out _, _, rfl, ?_⟩
        rw [HG.out]
        exact HEND.out _ (HROW.out.below (below_drewN (Below.refl _ _) _)) (HSZ.out.keep rfl)
      · have HLT := Lib.hid hfs
        have hbl : Op.bytesLess f.name.toList s.name.toList = true := hfs
        clear hfs
        go_upto_region 3 with fail
        go_quiet (fail)
        have HB4 := Lib.hid (below_drewN (Below.refl wr.heap.size wr) nq)
        generalize wr.drewN nq = w4 at HB4 ⊢
        have f0 := cell_on HB4.out f0
        have g0 := cell_on HB4.out g0
        have f1 := cell_on HB4.out f1
        have g1 := cell_on HB4.out g1
        have f2 := cell_on HB4.out f2
        have g2 := cell_on HB4.out g2
        have f3 := cell_on HB4.out f3
        have g3 := cell_on HB4.out g3
        have f4 := cell_on HB4.out f4
        have g4 := cell_on HB4.out g4
        have f5 := cell_on HB4.out f5
        have g5 := cell_on HB4.out g5
        have fz := (HROW.out.below HB4.out).frozen
        have hgl4 := Nat.lt_of_lt_of_le hgl HB4.out.size
        go_wp2_with fail
        refine ⟨⟨p, S1', s :: S2, HPL, by omega, Lib.hid (by rw [HL.out]; simp), Lib.hid (fun z hz => ?_), by go_num, ?_, ?_, ?_⟩, by simp [intOf]; omega⟩
        · rcases List.mem_cons.1 hz with rfl | hz
          · exact HLT.out
          · exact H2.out z hz
        · exact (Go.Proofs.Ytcelpmojhjnggaa.Below.six (Go.Proofs.Ytcelpmojhjnggaa.Below.six (HB.out.trans (HB4.out.mono (Nat.le_trans hBw HB.out.size))) hBg _ _ _ _ _ _ _) hBg _ _ _ _ _ _ _).alloc (by simp; have := HB.out.size; have := HB4.out.size; omega) _
        · refine (((HSZ.out.keep (HB4.out.block gg hgl)).six _ _ _ _ _ _ _).six _ _ _ _ _ _ _).keep (Below.heap_alloc _ _ _ (by simp; exact hgl4))
        · have h2 := ((HSWP.out _ HB4.out).2).below ((Below.refl _ _).alloc (Nat.le_refl _) (.cells #[.string f.name, .int .i64 z0, .string z1, .string z2, .slice z3 z4 z5, .slice z6 z7 z8] 52))
          simpa only [List.nil_append] using h2
end Go.Proofs.Ytcelpmojhjnggaa
