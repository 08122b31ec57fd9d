/- The walk of the document's Below. -/
import Derived.Test.YtfhmfdmcdmcaiaaH2
namespace Go.Proofs.Ytfhmfdmcdmcaiaa
open Go Go.RowKit Go.Sort
set_option maxHeartbeats 4000000
set_option maxRecDepth 100000

/-! ### Plain -/
structure Sound (E : Nat → List Int) (at_ n : Nat) (ms : List Nat) : Prop where
  nd : ms.Nodup
  lt : ∀ x ∈ ms, x < n
  re : ∀ x ∈ ms, Reach E at_ x
  at_ : at_ ∈ ms
def ClosedAt (E : Nat → List Int) (ms : List Nat) (i : Nat) : Prop := i ∈ ms → ∀ z ∈ E i, z.toNat ∈ ms
theorem Sound.start {E : Nat → List Int} {at_ n : Nat} (h : at_ < n) : Sound E at_ n [at_] :=
  ⟨by simp, fun x hx => by simp at hx; omega, fun x hx => by simp at hx; rw [hx]; exact .here, by simp⟩
theorem Sound.add {E : Nat → List Int} {at_ n i j : Nat} {ms : List Nat} {z : Int} (h : Sound E at_ n ms) (hi : i ∈ ms) (hz : z ∈ E i) (hj : z.toNat = j) (hjn : j < n) (hno : j ∉ ms) : Sound E at_ n (ms ++ [j]) := by
  refine ⟨?_, fun x hx => ?_, fun x hx => ?_, by simp [h.at_]⟩
  · rw [List.nodup_append]
    refine ⟨h.nd, by simp, fun a ha b hb => ?_⟩
    simp at hb
    rw [hb]
    exact fun e => hno (by rw [← e]; exact ha)
  · rw [List.mem_append, List.mem_singleton] at hx
    rcases hx with hx | hx
    · exact h.lt x hx
    · rw [hx]; exact hjn
  · rw [List.mem_append, List.mem_singleton] at hx
    rcases hx with hx | hx
    · exact h.re x hx
    · rw [hx, ← hj]; exact .step (h.re i hi) hz
theorem Sound.all {E : Nat → List Int} {at_ n : Nat} {ms : List Nat} (h : Sound E at_ n ms) (hc : ∀ i, i < n → ClosedAt E ms i) (k : Nat) : k ∈ ms ↔ Reach E at_ k := by
  refine ⟨h.re k, fun hr => ?_⟩
  induction hr with
  | here => exact h.at_
  | step hr hz ih => exact hc _ (h.lt _ ih) ih _ hz
theorem Sound.filter {E : Nat → List Int} {at_ n : Nat} {ms out : List Nat} (h : Sound E at_ n ms) (hc : ∀ i, i < n → ClosedAt E ms i) (ho : ∀ k, marks E at_ out k = true ↔ Reach E at_ k) : (List.range n).filter (marks E at_ out) = (List.range n).filter (fun k => ms.contains k) := by
  refine List.filter_congr (fun k _ => ?_)
  rw [Bool.eq_iff_iff, ho, List.contains_iff_mem, h.all hc]

/-! ### In memory -/
def isT : Option Value → Bool
  | some (.bool b) => b
  | _ => false
def cntW (w : World) (T n : Nat) : Nat := ((List.range n).filter (fun k => isT (w.cell? ⟨T, k, none⟩))).length
theorem cntW_of {w : World} {T n : Nat} {ms : List Nat} (h : There w T n ms) (hnd : ms.Nodup) (hlt : ∀ x ∈ ms, x < n) : cntW w T n = ms.length := by
  unfold cntW
  have e : (List.range n).filter (fun k => isT (w.cell? ⟨T, k, none⟩)) = (List.range n).filter (fun k => ms.contains k) := by
    refine List.filter_congr (fun k hk => ?_)
    rw [h.cell k (by simpa using hk)]
    rfl
  rw [e]
  refine List.Perm.length_eq ?_
  rw [List.perm_ext_iff_of_nodup (List.Pairwise.filter _ List.nodup_range) hnd]
  intro k
  rw [List.mem_filter, List.contains_iff_mem, List.mem_range]
  exact ⟨fun h => h.2, fun h => ⟨hlt k h, h⟩⟩
theorem There.set {w : World} {T n : Nat} {ms : List Nat} (h : There w T n ms) (j : Nat) (hj : j < n) : There (w.setCell ⟨T, j, none⟩ (.bool true)) T n (ms ++ [j]) := by
  obtain ⟨cs, h1, h2, h3⟩ := h
  refine ⟨_, setAt _ h1, by simpa using h2, fun k hk => ?_⟩
  by_cases e : k = j
  · subst e
    rw [Array.getElem?_setIfInBounds_self_of_lt (by omega)]
    simp
  · rw [Array.getElem?_setIfInBounds_ne (Ne.symm e), h3 k hk]
    simp [e]
theorem There.thaw {w : World} {T n : Nat} {ms : List Nat} (h : There w T n ms) (j : Nat) : w.frozen? ⟨T, j, none⟩ = false := by
  obtain ⟨cs, h1, _⟩ := h
  exact thaw_of h1 j
theorem There.start (w : World) (n : Nat) : There (w.alloc (.cells (madeCells #[.bool false] n) 4)) w.heap.size n [] :=
  ⟨_, heap_alloc_new _ _, by simp [madeCells], fun k hk => by
    rw [Array.getElem?_eq_getElem (by simp [madeCells]; exact hk)]
    simp [madeCells, Nat.mod_one]⟩
theorem There.start1 (w : World) (n t : Nat) (ht : t < n) : There (w.alloc (.cells ((madeCells #[.bool false] n).setIfInBounds t (.bool true)) 4)) w.heap.size n [t] := by
  refine ⟨_, heap_alloc_new _ _, by simp [madeCells], fun k hk => ?_⟩
  by_cases e : k = t
  · subst e
    rw [Array.getElem?_setIfInBounds_self_of_lt (by simp [madeCells]; exact hk)]
    simp
  · rw [Array.getElem?_setIfInBounds_ne (Ne.symm e), Array.getElem?_eq_getElem (by simp [madeCells]; exact hk)]
    simp [madeCells, Nat.mod_one, e]
theorem There.on {w w' : World} {T n : Nat} {out : List Nat} (h : There w T n out) (hb : Below w.heap.size w w') : There w' T n out := h.below hb
structure P1 (E : Nat → List Int) (n : Nat) (ms : List Nat) (v : Value) : Prop where
  c : v = .bool true ∨ (v = .bool false ∧ ∀ i, i < n → ClosedAt E ms i)
structure P2 (E : Nat → List Int) (ms m2 : List Nat) (i : Nat) (v : Value) : Prop where
  b : v = .bool (decide (ms.length < m2.length))
  c : ¬ ms.length < m2.length → m2 = ms ∧ ∀ k, k < i → ClosedAt E ms k
structure P3 (E : Nat → List Int) (nm ss : List ByteArray) (ms m3 : List Nat) (i k : Nat) (v : Value) : Prop where
  b : v = .bool (decide (ms.length < m3.length))
  c : ¬ ms.length < m3.length → m3 = ms ∧ (∀ k, k < i → ClosedAt E ms k) ∧ ∀ q, q < k → ∀ s, ss[q]? = some s → (Lib.idxOfS nm s).toNat ∈ ms
structure RM (w1 wr : World) (n : Nat) (ms : List Nat) : Prop where
  bel : Below w1.heap.size w1 wr
  th : There wr w1.heap.size n ms
structure RM3 (w1 wi wr : World) (n : Nat) (ms : List Nat) : Prop where
  bel : Below w1.heap.size w1 wr
  th : There wr w1.heap.size n ms
  oth : ∀ b, b ≠ w1.heap.size → wr.heap[b]? = wi.heap[b]?
theorem rbelow16_ok (w0 : World) (vn vd : Value) (nm : List ByteArray) (needs : List (List ByteArray)) (t : Nat) (hn : StrRow w0 vn nm) (hd : NStr w0 vd needs) (hll : ∀ x ∈ needs, x.length ≤ 1000) (hnl : nm.length ≤ 1000000) (hok : (orderR nm needs).2.2 = 0) (ht : t < nm.length) :
    Calls Try.prog 16 #[vn, vd, iv t] w0 fun e w' => Below w0.heap.size w0 w' ∧ ∃ vo, e = .returned vo ∧ w'.ownsRow w0.heap.size 3 1 vo ((List.range nm.length).filter (marks (edgeRow nm needs) t (orderP nm (edgeRow nm needs)))).length (((List.range nm.length).filter (marks (edgeRow nm needs) t (orderP nm (edgeRow nm needs)))).map iv) := by
  obtain ⟨q1, q2, q3, q4, q5⟩ := order_fine hok
  have HO := Lib.hid (order11 w0 vn vd nm needs hn hd hll hnl)
  have HOF := Lib.hid (fun (w : World) (hw : Below w0.heap.size w0 w) i => of24u w vd needs i (hd.below hw))
  have HPL := Lib.hid (fun w hw s => place23 w vn nm s (hn.below hw))
  unfold OrderPost at HO
  rw [q5] at HO
  dsimp only at HO
  have hoo := order_ok nm (edgeRow nm needs)
  have HRE := Lib.hid (fun k => marks_reach hoo.nd hoo.be (all_in q4) ht hoo.lt k)
  have HID := Lib.hid (fun (i : Nat) (hi : i < nm.length) (s : ByteArray) (hs : s ∈ needOf needs i) => (show Lib.idxOfS nm s ∈ edgeRow nm needs i ∧ 0 ≤ Lib.idxOfS nm s from ⟨(once_mem _ _).2 (List.mem_map.2 ⟨s, hs, rfl⟩), bad_none q3 hi hs⟩))
  have HIE := Lib.hid (fun (i : Nat) (z : Int) (hz : z ∈ edgeRow nm needs i) => (show ∃ s, s ∈ needOf needs i ∧ Lib.idxOfS nm s = z from by
    obtain ⟨s, h1, h2⟩ := List.mem_map.1 ((once_mem _ _).1 hz)
    exact ⟨s, h1, h2⟩))
  generalize orderP nm (edgeRow nm needs) = out at HO HRE ⊢
  obtain ⟨E, hE0⟩ : ∃ E, edgeRow nm needs = E := ⟨_, rfl⟩
  rw [hE0] at HRE HID HIE ⊢
  obtain ⟨an, cn, rfl, hn1, hn2, hn3⟩ := hn
  have htl : (t : Int) < (nm.length : Int) := by omega
  have ht8 : nm.length ≤ 8 := q1
  have tn0 : ¬ (t : Int) < 0 := by omega
  have tn1 : ¬ nm.length ≤ t := by omega
  obtain ⟨i9, hi9, hz90, hz91, hz92⟩ := info_parts info3
  have hmk := fun w => make51 w nm.length (by omega)
  clear q1 q2 q3 q4 q5 hok hn3 hd hoo hE0
  go_enter Try.func16, Try.ntmps16
  go_wp2_with (first | (go_at_call 11; refine HO.out.mono ?_; rintro e w1 ⟨hb1, vo, rfl, ho1⟩; have HB1 := Lib.hid hb1; have c0 := (There.start w1 nm.length).cell t ht; have c1 := (There.start w1 nm.length).thaw t; have HT0 := Lib.hid (There.start1 w1 nm.length t ht); have HBB := Lib.hid (show Below w1.heap.size w1 (w1.alloc (.cells ((madeCells #[.bool false] nm.length).setIfInBounds t (.bool true)) 4)) from (Below.refl _ _).alloc (Nat.le_refl _) _); clear hb1 ho1))
  clear hmk c0 c1 HO
  go_loopw [11] (fun v11 wr => ∃ (ms : List Nat), P1 E nm.length ms v11 ∧ RM w1 wr nm.length ms ∧ Sound E t nm.length ms) (fun v11 wr => 2 * (nm.length - cntW wr w1.heap.size nm.length) + (if isT (some v11) then 1 else 0))
  case atStart => exact ⟨[t], ⟨.inl rfl⟩, ⟨HBB.out, HT0.out⟩, Sound.start ht⟩
  case round =>
    clear HBB HT0
    obtain ⟨ms, HC, HW, HS⟩ := hrel
    have HCx := Lib.hid HC.c
    have HWx := Lib.hid HW
    have HSx := Lib.hid HS
    clear HC HW HS
    have HW := HWx
    have HS := HSx
    rcases HCx.out with rfl | ⟨rfl, hcl⟩
    · clear HCx HWx HSx
      obtain ⟨we, hwe⟩ : ∃ we : World, we = wr := ⟨_, rfl⟩
      subst hwe
      have HCN := Lib.hid (cntW_of HW.out.2 HS.out.nd HS.out.lt)
      go_wp2_with fail
      go_loopw [11, 12] (fun v11 v12 wr => ∃ (i : Nat) (m2 : List Nat), i ≤ nm.length ∧ v12 = iv i ∧ Hid (P2 E ms m2 i v11) ∧ Hid (RM w1 wr nm.length m2) ∧ Hid (Sound E t nm.length m2)) (fun _ v12 _ => nm.length - (intOf v12).toNat)
      case atStart => exact ⟨0, ms, by omega, rfl, Lib.hid ⟨by simp, fun _ => ⟨rfl, fun k hk => by omega⟩⟩, HW, HS⟩
      case round =>
        obtain ⟨i, m2, hi, rfl, HF, HV, HS2⟩ := hrel
        by_cases hil : i < nm.length
        · have hi1 : (i : Int) < (nm.length : Int) := by omega
          have hb0 := HB1.out.trans (HV.out.1.mono HB1.out.size)
          obtain ⟨u, hu, hcu⟩ := HOF.out wr hb0 i
          obtain ⟨ss, hss⟩ : ∃ ss, needOf needs i = ss := ⟨_, rfl⟩
          rw [hss] at hu
          have HSS := Lib.hid hss
          have HCU := Lib.hid (hcu wr (Below.refl _ _))
          obtain ⟨au, cu, rfl, hu1, hu2, hu3⟩ := hu
          unfold maxLen at hu2
          have HU3 := Lib.hid hu3
          clear hcu hss hu3 hb0
          go_wp2_with (first | (go_at_call 24; refine HCU.out.mono ?_; rintro e w6 ⟨rfl, hw6⟩; obtain rfl := hw6.symm))
          obtain ⟨wi, hwi⟩ : ∃ wi : World, wi = wr := ⟨_, rfl⟩
          subst hwi
          go_loopw [11, 14] (fun v11 v14 wr => ∃ (k : Nat) (m3 : List Nat), k ≤ ss.length ∧ v14 = iv k ∧ Hid (P3 E nm ss ms m3 i k v11) ∧ Hid (RM3 w1 wi wr nm.length m3) ∧ Hid (Sound E t nm.length m3)) (fun _ v14 _ => ss.length - (intOf v14).toNat)
          case atStart => exact ⟨0, m2, by omega, rfl, Lib.hid ⟨HF.out.b, fun e => ⟨(HF.out.c e).1, (HF.out.c e).2, fun q hq => by omega⟩⟩, Lib.hid ⟨HV.out.1, HV.out.2, fun _ _ => rfl⟩, HS2⟩
          case round =>
            have HTI := Lib.hid HV.out.th
            clear HV HF HS2
            obtain ⟨k, m3, hk, rfl, HF, HV, HS3⟩ := hrel
            obtain ⟨a, ha⟩ : ∃ a, m3.contains i = a := ⟨_, rfl⟩
            have f0 := HV.out.th.cell i hil
            rw [ha] at f0
            have HA := Lib.hid ha
            clear ha
            cases a with
            | false =>
              have HNX : Hid (¬ ms.length < m3.length → m3 = ms ∧ ∀ k, k < i + 1 → ClosedAt E ms k) := Lib.hid (fun e => by
                obtain ⟨h1, h2, _⟩ := HF.out.c e
                refine ⟨h1, fun k hk => ?_⟩
                by_cases e2 : k = i
                · rw [e2]
                  intro him
                  have := HA.out
                  rw [h1] at this
                  simp at this
                  exact absurd him this
                · exact h2 k (by omega))
              go_wp2_with fail
              exact ⟨⟨i + 1, m3, by omega, by go_num, Lib.hid ⟨HF.out.b, HNX.out⟩, Lib.hid ⟨HV.out.1, HV.out.2⟩, HS3⟩, by simp [intOf]; omega⟩
            | true =>
              by_cases hkl : k < ss.length
              · have hk1 : (k : Int) < (ss.length : Int) := by omega
                obtain ⟨s, hs⟩ : ∃ s, ss[k]? = some s := ⟨_, List.getElem?_eq_getElem hkl⟩
                rcases HU3.out with h0 | ⟨bs, os, rfl, hcs⟩
                · rw [h0] at hs; simp at hs
                have g0 := hcs k s hs
                have HHS := Lib.hid hs
                have hsm : s ∈ needOf needs i := by rw [HSS.out]; exact List.mem_of_getElem? hs
                obtain ⟨hz, hz0⟩ := HID.out i hil s hsm
                obtain ⟨j, hj⟩ : ∃ j : Nat, Lib.idxOfS nm s = j := ⟨(Lib.idxOfS nm s).toNat, by omega⟩
                have hjn : j < nm.length := by have := idx_lt (nm := nm) (s := s); omega
                have hjn1 : (j : Int) < (nm.length : Int) := by omega
                have HP := Lib.hid (HPL.out wr (HB1.out.trans (HV.out.1.mono HB1.out.size)) s)
                rw [hj] at HP hz
                have HJ := Lib.hid hj
                have HZ := Lib.hid hz
                obtain ⟨c, hc⟩ : ∃ c, m3.contains j = c := ⟨_, rfl⟩
                have f1 := HV.out.th.cell j hjn
                rw [hc] at f1
                have f2 := HV.out.th.thaw j
                have HCC := Lib.hid hc
                have HIW : Hid (w1.heap.size ≠ bs → wr.cell? ⟨bs, os + k, none⟩ = some (.string s)) := Lib.hid (fun hne => (World.cell?_of_block (HV.out.oth bs (Ne.symm hne))).trans g0)
                have hbne : w1.heap.size ≠ bs := by
                  intro e
                  obtain ⟨cs, h1, h2, h3⟩ := HTI.out
                  rw [← e] at g0
                  have h4 : cs[os + k]? = some (.string s) := by simpa [World.cell?, h1] using g0
                  have h5 : os + k < cs.size := (Array.getElem?_eq_some_iff.1 h4).1
                  rw [h3 (os + k) (by omega)] at h4
                  simp at h4
                have g1 := HIW.out hbne
                clear hs hcs g0 hsm hz hz0 hj hc
                cases c with
                | true =>
                  have HNX : Hid (¬ ms.length < m3.length → m3 = ms ∧ (∀ k, k < i → ClosedAt E ms k) ∧ ∀ q, q < k + 1 → ∀ s, ss[q]? = some s → (Lib.idxOfS nm s).toNat ∈ ms) := Lib.hid (fun e => by
                    obtain ⟨h1, h2, h3⟩ := HF.out.c e
                    refine ⟨h1, h2, fun q hq s' hs' => ?_⟩
                    by_cases e2 : q = k
                    · rw [e2, HHS.out] at hs'
                      obtain rfl := Option.some.inj hs'
                      rw [HJ.out, ← h1]
                      have := HCC.out
                      simpa using this
                    · exact h3 q (by omega) s' hs')
                  go_wp2_with (first | (go_at_call 23; refine HP.out.mono ?_; rintro e w6 ⟨rfl, hw6⟩; obtain rfl := hw6.symm))
                  exact ⟨⟨k + 1, m3, by omega, by go_num, Lib.hid ⟨HF.out.b, HNX.out⟩, HV, HS3⟩, by simp [intOf]; omega⟩
                | false =>
                  have HS4 : Hid (Sound E t nm.length (m3 ++ [j])) := Lib.hid (HS3.out.add (i := i) (z := (j : Int)) (by have := HA.out; simpa using this) HZ.out (by simp) hjn (by have := HCC.out; simpa using this))
                  have HLN : Hid (ms.length < (m3 ++ [j]).length) := Lib.hid (by
                    rw [List.length_append, List.length_singleton]
                    by_cases hlt : ms.length < m3.length
                    · omega
                    · rw [(HF.out.c hlt).1]; omega)
                  have HV4 : Hid (RM3 w1 wi (wr.setCell ⟨w1.heap.size, j, none⟩ (.bool true)) nm.length (m3 ++ [j])) := Lib.hid ⟨HV.out.1.setCell (Nat.le_refl _) _, HV.out.th.set j hjn, fun b hb => (Below.heap_setCell _ _ _ _ hb).trans (HV.out.oth b hb)⟩
                  go_wp2_with (first | (go_at_call 23; refine HP.out.mono ?_; rintro e w6 ⟨rfl, hw6⟩; obtain rfl := hw6.symm))
                  exact ⟨⟨k + 1, m3 ++ [j], by omega, by go_num, Lib.hid ⟨by rw [decide_eq_true HLN.out], fun e => absurd HLN.out e⟩, HV4, HS4⟩, by simp [intOf]; omega⟩
              · have hk1 : ¬ (k : Int) < (ss.length : Int) := by omega
                have HNX : Hid (¬ ms.length < m3.length → m3 = ms ∧ ∀ k, k < i + 1 → ClosedAt E ms k) := Lib.hid (fun e => by
                  obtain ⟨h1, h2, h3⟩ := HF.out.c e
                  refine ⟨h1, fun k' hk' => ?_⟩
                  by_cases e2 : k' = i
                  · rw [e2]
                    intro him z hz
                    obtain ⟨s, hs, hz2⟩ := HIE.out i z hz
                    rw [HSS.out] at hs
                    obtain ⟨q, hq, e3⟩ := List.getElem_of_mem hs
                    rw [← hz2]
                    exact h3 q (by omega) s (by rw [List.getElem?_eq_getElem hq, e3])
                  · exact h2 k' (by omega))
                go_wp2_with fail
                exact ⟨⟨i + 1, m3, by omega, by go_num, Lib.hid ⟨HF.out.b, HNX.out⟩, Lib.hid ⟨HV.out.1, HV.out.2⟩, HS3⟩, by simp [intOf]; omega⟩
        · obtain rfl : i = nm.length := by omega
          have HCN2 := Lib.hid (cntW_of HV.out.2 HS2.out.nd HS2.out.lt)
          go_wp2_with fail
          have h1 := HCN.out
          have h2 := HCN2.out
          have h3 := len_le HS2.out.nd HS2.out.lt
          have h5 := HF.out.b
          by_cases hlt : ms.length < m2.length
          · rw [decide_eq_true hlt] at h5
            refine ⟨⟨m2, ⟨.inl h5⟩, HV.out, HS2.out⟩, ?_⟩
            simp [isT, h1, h2, h5]
            omega
          · rw [decide_eq_false hlt] at h5
            have h4 := (HF.out.c hlt).1
            refine ⟨⟨m2, ⟨.inr ⟨h5, by rw [h4]; exact (HF.out.c hlt).2⟩⟩, HV.out, HS2.out⟩, ?_⟩
            rw [h4] at h2
            simp [isT, h1, h2, h5]
    · have HFI := Lib.hid (HS.out.filter hcl HRE.out)
      have HT4 := Lib.hid HW.out.th
      have HB0 := Lib.hid (HB1.out.trans (HW.out.bel.mono HB1.out.size))
      obtain ⟨M, hMe⟩ : ∃ M : Nat → Bool, (fun k => ms.contains k) = M := ⟨_, rfl⟩
      rw [hMe] at HFI
      have HMM := Lib.hid (fun k => congrFun hMe k)
      obtain ⟨W, hWe⟩ : ∃ W : World, W = wr := ⟨_, rfl⟩
      subst hWe
      clear hMe hcl HCx HWx HSx HW HS
      go_wp2_with fail
      go_loopw [16, 17] (fun v16 v17 wr => ∃ (k : Nat) (ao : Option Addr) (co : Nat), k ≤ nm.length ∧ v16 = .slice ao ((List.range k).filter M).length co ∧ v17 = iv k ∧ Hid (Below W.heap.size W wr ∧ wr.ownsRow W.heap.size 3 1 (.slice ao ((List.range k).filter M).length co) ((List.range k).filter M).length (((List.range k).filter M).map iv))) (fun _ v17 _ => nm.length - (intOf v17).toNat)
      case atStart => exact ⟨0, none, 0, by omega, rfl, rfl, Lib.hid ⟨Below.refl _ _, ⟨rfl, .inl ⟨rfl, rfl⟩⟩⟩⟩
      case round =>
        obtain ⟨k, ao, co, hk, rfl, rfl, HR⟩ := hrel
        obtain ⟨q, hq⟩ : ∃ q, ((List.range k).filter M).length = q := ⟨_, rfl⟩
        have hql : q ≤ k := by
          have := List.length_filter_le M (List.range k)
          rw [List.length_range] at this
          omega
        have HQ := Lib.hid hq
        rw [hq] at HR ⊢
        clear hq
        by_cases hkl : k < nm.length
        · have hk1 : (k : Int) < (nm.length : Int) := by omega
          have c0 := HT4.out.cell k hkl
          have c1 := (HR.out.1.cell (World.block_lt_of_cell? W _ c0)).trans c0
          have hmk := HMM.out k
          obtain ⟨b, hb⟩ : ∃ b, M k = b := ⟨_, rfl⟩
          rw [hmk, hb] at c1
          have HF := Lib.hid (show (List.range (k + 1)).filter M = (List.range k).filter M ++ (if b = true then [k] else []) by
            rw [List.range_succ, List.filter_append, List.filter_cons, hb]; rfl)
          clear hb c0 hmk
          cases b with
          | true =>
            have HSZ := Lib.hid HR.out.1.size
            have HOW := Lib.hid HR.out.2
            go_wp2_with (at_builtin; refine wpList_append_lies _ rfl _ _ _ rfl W.heap.size 3 i9 _ 1 8 Try.underlying26 hi9 hz90 hz91 hz92 rfl (by decide) _ q _ rfl (HOW.out.alloc _) ⟨wr.heap.size, 0, none⟩ 1 1 [iv k] rfl rfl (World.news_of_block (cs := #[iv k]) (t := 3) (fr := (0, 0)) (heap_alloc_new wr _)) (by simp [Value.oneCell']) (by omega) (by unfold maxLen; omega) (by omega) (by have := HSZ.out; simp; omega) (wr.heap.size + 1) (by simp) ?_; intro gg cap w5 hown' hgrow hat hlt2; have HO5 := Lib.hid hown'; have hb5 := (HR.out.1.alloc HSZ.out (.cells #[iv k] 3)).grown hgrow (by have := HSZ.out; simp; omega) (fun y hy => (own_base HOW.out y hy)); have HB5 := Lib.hid hb5; clear hown' hgrow hat hlt2 hb5)
            have hl5 : ((List.range (k + 1)).filter M).length = q + 1 := by rw [HF.out, List.length_append, HQ.out]; rfl
            exact ⟨⟨k + 1, some ⟨gg, 0, none⟩, cap, by omega, by rw [hl5], by go_num, Lib.hid ⟨HB5.out, by rw [hl5, HF.out, List.map_append]; exact HO5.out⟩⟩, by simp [intOf]; omega⟩
          | false =>
            go_wp2_with fail
            have hl5 : ((List.range (k + 1)).filter M) = ((List.range k).filter M) := by rw [HF.out]; simp
            exact ⟨⟨k + 1, ao, co, by omega, by rw [hl5, HQ.out], by go_num, Lib.hid (by rw [hl5, HQ.out]; exact HR.out)⟩, by simp [intOf]; omega⟩
        · obtain rfl : k = nm.length := by omega
          go_wp2_with fail
          go_ret
          refine ⟨HB0.out.trans (HR.out.1.mono HB0.out.size), _, rfl, ?_⟩
          rw [HFI.out, HQ.out]
          refine ⟨HR.out.2.1, ?_⟩
          rcases HR.out.2.2 with h2 | ⟨g, cap, cur, e, hB, h3⟩
          · exact .inl h2
          · exact .inr ⟨g, cap, cur, e, Nat.le_trans HB0.out.size hB, h3⟩
theorem rbelow16 (w0 : World) (vn vd : Value) (nm : List ByteArray) (needs : List (List ByteArray)) (x : Int) (hn : StrRow w0 vn nm) (hd : NStr w0 vd needs) (hll : ∀ x ∈ needs, x.length ≤ 1000) (hnl : nm.length ≤ 1000000) :
    Calls Try.prog 16 #[vn, vd, .int .i64 x] w0 fun e w' => BelowPost w0 nm needs x e w' := by
  by_cases h : (orderR nm needs).2.2 = 0 ∧ 0 ≤ x ∧ x < (nm.length : Int)
  · obtain ⟨t, rfl⟩ : ∃ t : Nat, x = (t : Int) := ⟨x.toNat, by omega⟩
    refine (rbelow16_ok w0 vn vd nm needs t hn hd hll hnl h.1 (by omega)).mono fun e w' hh => ?_
    unfold BelowPost belowR
    rw [if_pos h, Int.toNat_natCast]
    exact hh
  · refine (rbelow16_none w0 vn vd nm needs x hn hd hll hnl h).mono fun e w' hh => ?_
    unfold BelowPost belowR
    rw [if_neg h]
    exact ⟨hh.1, _, hh.2, rfl, .inl ⟨rfl, rfl⟩⟩
end Go.Proofs.Ytfhmfdmcdmcaiaa
