/- The walk of the document's Order. (printed by mkC3.py) -/
import Derived.Test.YtfhmfdmcdmcaiaaC2
import Derived.BigQuiet
namespace Go.Proofs.Ytfhmfdmcdmcaiaa
open Go Go.RowKit Go.Sort
set_option maxHeartbeats 4000000
set_option maxRecDepth 100000

/-! ### Plain -/
theorem idx_take (s : ByteArray) : ∀ (zs : List ByteArray) (i k : Nat), (0 ≤ Lib.idxFromS zs s i ∧ Lib.idxFromS zs s i < (i : Int) + (k : Int)) ↔ s ∈ zs.take k
  | [], i, k => by simp [Lib.idxFromS]
  | z :: zs, i, k => by
    have ih := idx_take s zs (i + 1) (k - 1)
    rw [Lib.idxFromS]
    by_cases h0 : k = 0
    · subst h0
      simp only [List.take_zero, List.not_mem_nil, iff_false]
      intro h
      split at h
      · omega
      · have hge : Lib.idxFromS zs s (i + 1) = -1 ∨ (i : Int) + 1 ≤ Lib.idxFromS zs s (i + 1) := by
          clear h ih
          induction zs generalizing i with
          | nil => exact .inl rfl
          | cons y ys ih2 =>
            rw [Lib.idxFromS]
            split
            · right; omega
            · rcases ih2 (i + 1) with h | h
              · exact .inl h
              · right; omega
        omega
    · obtain ⟨k, rfl⟩ : ∃ j, k = j + 1 := ⟨k - 1, by omega⟩
      rw [Nat.add_sub_cancel] at ih
      rw [List.take_succ_cons, List.mem_cons, ← ih]
      split
      · next hz => exact ⟨fun _ => .inl hz.symm, fun _ => by omega⟩
      · next hz =>
        constructor
        · intro h; right; omega
        · rintro (h | h)
          · exact absurd h.symm hz
          · omega
theorem dup_idx {nm : List ByteArray} {i : Nat} {s : ByteArray} (hs : nm[i]? = some s) : Lib.containsS (nm.take i) (nm.getD i ByteArray.empty) = decide (Lib.idxOfS nm s < (i : Int)) := by
  have e : nm.getD i ByteArray.empty = s := by rw [List.getD_eq_getElem?_getD, hs]; rfl
  rw [e]
  have h0 : 0 ≤ Lib.idxOfS nm s := (Lib.idxOfS_nonneg_iff _ _).2 (List.mem_of_getElem? hs)
  have h1 := idx_take s nm 0 i
  rw [Bool.eq_iff_iff, Lib.containsS_iff, ← h1, decide_eq_true_eq]
  unfold Lib.idxOfS at h0 ⊢
  simp only [Int.ofNat_zero, Int.zero_add] at *
  constructor
  · intro h; have := h.2; simpa using this
  · intro h; exact ⟨h0, by simpa using h⟩
def bestV : Option Nat → Value
  | none => .int .i64 (-1)
  | some b => iv b

/-! ### In memory -/
theorem of24u (w0 : World) (vd : Value) (needs : List (List ByteArray)) (i : Nat) (hd : NStr w0 vd needs) :
    ∃ u, StrRow w0 u (needOf needs i) ∧ ∀ w, Below w0.heap.size w0 w → Calls Try.prog 24 #[vd, iv i] w fun e w' => e = .returned u ∧ w' = w := by
  have HD := Lib.hid hd
  obtain ⟨ad, cd, rfl, hd1, hd2, hd3⟩ := hd
  clear hd3
  by_cases hil : i < needs.length
  · have hi1 : (i : Int) < (needs.length : Int) := by omega
    obtain ⟨ss, hss⟩ : ∃ ss, needs[i]? = some ss := ⟨_, List.getElem?_eq_getElem hil⟩
    obtain ⟨b, o, u, rfl, f0, hs⟩ := HD.out.row i ss hss
    have hno : needOf needs i = ss := by unfold needOf; rw [List.getD_eq_getElem?_getD, hss]; rfl
    rw [hno]
    refine ⟨u, hs, fun w hb => ?_⟩
    have f1 := (hb.cell (World.block_lt_of_cell? w0 _ f0)).trans f0
    clear hss hno hs f0 hb
    go_enter Try.func24, Try.ntmps24
    go_wp2_with fail
    go_ret
    exact ⟨rfl, rfl⟩
  · have hi1 : ¬ (i : Int) < (needs.length : Int) := by omega
    have hno : needOf needs i = [] := by unfold needOf; rw [List.getD_eq_getElem?_getD, List.getElem?_eq_none (by omega)]; rfl
    rw [hno]
    refine ⟨_, ⟨none, 0, rfl, Nat.le_refl _, by unfold maxLen; omega, .inl rfl⟩, fun w hb => ?_⟩
    clear hno hb
    go_enter Try.func24, Try.ntmps24
    go_wp2_with fail
    go_ret
    exact ⟨rfl, rfl⟩
structure MemR (w0 : World) (n : Nat) (wr : World) (vo : Value) (out : List Nat) : Prop where
  bel : Below w0.heap.size w0 wr
  th : There wr w0.heap.size n out
  out : wr.ownsRow w0.heap.size 3 1 vo out.length (out.map iv)
theorem There.below {w w' : World} {T n : Nat} {out : List Nat} (h : There w T n out) (hb : Below w.heap.size w w') : There w' T n out := by
  obtain ⟨cs, h1, h2⟩ := h
  exact ⟨cs, (hb.block T (lt_of h1)).trans h1, h2⟩
theorem There.lt {w : World} {T n : Nat} {out : List Nat} (h : There w T n out) : T < w.heap.size := by
  obtain ⟨cs, h1, h2⟩ := h
  exact lt_of h1
theorem MemR.any {w0 wr w' : World} {n : Nat} {vo : Value} {out : List Nat} (H : MemR w0 n wr vo out) (hb : Below wr.heap.size wr w') : MemR w0 n w' vo out :=
  ⟨H.bel.trans (hb.mono H.bel.size), H.th.below hb, own_below H.out hb⟩
theorem info4 : (Try.prog.info? 4).map (fun i => (i.zero, i.size, i.bytes)) = some (some (.bool false), 1, 1) := by kernel_rfl
theorem make51 (w : World) (n : Nat) (hn : n ≤ 1000000) : (Instr.makeSlice 51 (.int .i64 n) (.int .i64 n)).run Try.prog w = .ok (.slice (some ⟨w.heap.size, 0, none⟩) n n) (w.alloc (.cells (madeCells #[.bool false] n) 4)) := by
  obtain ⟨i9, hi9, hz90, hz91, hz92⟩ := info_parts info4
  have := run_make (P := Try.prog) w 51 4 i9 _ Try.underlying51 hi9 hz90 .i64 .i64 n n (by omega) (by omega) (by rw [hz92]; omega) (by omega)
  rw [hz91, show ((n : Int).toNat * 1) = n by omega] at this
  exact this
theorem MemR.start (w0 : World) (n : Nat) : MemR w0 n (w0.alloc (.cells (madeCells #[.bool false] n) 4)) (.slice none 0 0) [] :=
  ⟨(Below.refl _ _).alloc (Nat.le_refl _) _, ⟨_, heap_alloc_new _ _, by simp [madeCells], fun k hk => by
    rw [Array.getElem?_eq_getElem (by simp [madeCells]; exact hk)]
    simp [madeCells, Nat.mod_one]⟩, ⟨rfl, .inl ⟨rfl, rfl⟩⟩⟩
/-- one more is there: the store, then the append -/
theorem MemR.app {w0 wr w2 : World} {n x gg cap : Nat} {vo : Value} {out : List Nat} (H : MemR w0 n wr vo out) (hx : x < n) (hown : w2.ownsRow w0.heap.size 3 1 (.slice (some ⟨gg, 0, none⟩) (out.length + 1) cap) (out.length + 1) (out.map iv ++ [iv x]))
    (hg : ((wr.setCell ⟨w0.heap.size, x, none⟩ (.bool true)).alloc (.cells #[iv x] 3)).grownBy w2 vo.ownBlock) : MemR w0 n w2 (.slice (some ⟨gg, 0, none⟩) (out.length + 1) cap) (out ++ [x]) := by
  have hT := H.th.lt
  obtain ⟨cs, h1, h2, h3⟩ := H.th
  have hvo : ∀ y, vo.ownBlock = some y → w0.heap.size ≤ y ∧ y ≠ w0.heap.size := fun y hy => by
    rcases H.out.2 with ⟨e, _⟩ | ⟨g', c', cur, e, hB, hgg, _⟩
    · rw [e] at hy; cases hy
    · rw [e] at hy
      have : g' = y := by simpa [Value.ownBlock] using hy
      subst this
      refine ⟨hB, fun e2 => ?_⟩
      rw [e2, h1] at hgg
      simp at hgg
  have hb2 : Below w0.heap.size w0 w2 := by
    have hbs : Below w0.heap.size w0 ((wr.setCell ⟨w0.heap.size, x, none⟩ (.bool true)).alloc (.cells #[iv x] 3)) := (H.bel.setCell (Nat.le_refl _) _).alloc (by have := H.bel.size; simpa [World.setCell] using this) _
    exact hbs.grown hg (by have := H.bel.size; simp [World.setCell]; omega) (fun k hk => (hvo k hk).1)
  have h4 : w2.heap[w0.heap.size]? = some (.cells (cs.setIfInBounds x (.bool true)) 4) := by
    refine (hg.block _ (by simp [World.setCell]; omega) (fun e => (hvo _ e.symm).2 rfl)).trans ?_
    exact (Below.heap_alloc _ _ _ (by simpa [World.setCell] using hT)).trans (setAt _ h1)
  refine ⟨hb2, ⟨_, h4, by simpa using h2, fun k hk => ?_⟩, by simpa using hown⟩
  by_cases e : k = x
  · subst e
    rw [Array.getElem?_setIfInBounds_self_of_lt (by omega)]
    simp
  · rw [Array.getElem?_setIfInBounds_ne (Ne.symm e), h3 k hk]
    simp [e]
theorem best_next (nm : List ByteArray) (E : Nat → List Int) (out : List Nat) (i : Nat) : bestP nm E out (i + 1) = if (nextP E out i && betterP nm (bestP nm E out i) i) = true then some i else bestP nm E out i := rfl

theorem order11 (w0 : World) (vn vd : Value) (nm : List ByteArray) (needs : List (List ByteArray)) (hn : StrRow w0 vn nm) (hd : NStr w0 vd needs) (hll : ∀ x ∈ needs, x.length ≤ 1000) (hnl : nm.length ≤ 1000000) :
    Calls Try.prog 11 #[vn, vd] w0 fun e w' => OrderPost w0 nm needs e w' := by
  by_cases h8 : 8 < nm.length
  · have H := Lib.hid (post_big (w0 := w0) (needs := needs) h8)
    obtain ⟨an, cn, rfl, hn1, hn2, _⟩ := hn
    have b1 : (8 : Int) < (nm.length : Int) := by omega
    go_enter Try.func11, Try.ntmps11
    go_wp2_with fail
    refine bodyPost_ret (v := .tuple #[.slice none 0 0, iv 0, .int .i64 12]) (by simp [results, Try.results11, go_sem]) rfl ?_
    exact H.out
  have HD := Lib.hid hd
  have HN := Lib.hid hn
  have HOF := Lib.hid (fun i => of24u w0 vd needs i hd)
  have HPL := Lib.hid (fun w hw s => place23 w vn nm s (hn.below hw))
  obtain ⟨an, cn, rfl, hn1, hn2, hn3⟩ := hn
  have HN3 := Lib.hid hn3
  have H8 := Lib.hid h8
  have HLL := Lib.hid hll
  have b1 : (nm.length : Int) ≤ 8 := by omega
  have b2 : nm.length ≤ 8 := by omega
  clear hn3 hd hll h8
  go_enter Try.func11, Try.ntmps11
  go_wp2_with fail
  go_loopw [7] (fun iv7 wr => ∃ (i : Nat), i ≤ nm.length ∧ iv7 = iv i ∧ Hid (wr = w0) ∧ Hid (∀ k, k < i → Lib.containsS (nm.take k) (nm.getD k ByteArray.empty) = false)) (fun iv7 _ => nm.length - (intOf iv7).toNat)
  case atStart => exact ⟨0, by omega, rfl, Lib.hid rfl, Lib.hid (fun k hk => by omega)⟩
  case round =>
    obtain ⟨i, hi, rfl, HW, HB⟩ := hrel
    obtain rfl := HW.out
    by_cases hil : i < nm.length
    · have hi1 : (i : Int) < (nm.length : Int) := by omega
      rcases HN3.out with h0 | ⟨bn, on, rfl, hcn⟩
      · rw [h0] at hil; simp at hil
      obtain ⟨s, hs⟩ : ∃ s, nm[i]? = some s := ⟨_, List.getElem?_eq_getElem hil⟩
      have f0 := hcn i s hs
      obtain ⟨k, hk⟩ : ∃ k, Lib.idxOfS nm s = k := ⟨_, rfl⟩
      have HH := Lib.hid (HPL.out wr (Below.refl _ _) s)
      have hdu := dup_idx hs
      rw [hk] at HH hdu
      have HDI := Lib.hid hdu
      clear hk hs hcn hdu
      by_cases hki : k < (i : Int)
      · have HDD := Lib.hid (post_dup (w0 := wr) (needs := needs) H8.out (find_first hil (by rw [HDI.out]; simpa using hki) HB.out))
        go_wp2_with (first | (go_at_call 23; refine HH.out.mono ?_; rintro e w6 ⟨rfl, hw6⟩; obtain rfl := hw6.symm))
        refine bodyPost_ret (v := .tuple #[.slice none 0 0, iv i, .int .i64 7]) (by simp [results, Try.results11, go_sem]) rfl ?_
        exact HDD.out
      · have HKI := Lib.hid hki
        have hki2 : (i : Int) ≤ k := by omega
        go_wp2_with (first | (go_at_call 23; refine HH.out.mono ?_; rintro e w6 ⟨rfl, hw6⟩; obtain rfl := hw6.symm))
        refine ⟨⟨i + 1, by omega, by go_num, by first | exact Lib.hid rfl | exact Lib.hid trivial, Lib.hid (fun j hj => ?_)⟩, by simp [intOf]; omega⟩
        by_cases e : j = i
        · rw [e, HDI.out]; simpa using HKI.out
        · exact HB.out j (by omega)
    · obtain rfl : i = nm.length := by omega
      have HDU := Lib.hid (show dupAt nm = none from find_none HB.out)
      clear HB hil HW
      go_wp2_with fail
      go_loopw [8] (fun iv8 w1 => ∃ (i : Nat), i ≤ nm.length ∧ iv8 = iv i ∧ Hid (w1 = wr) ∧ Hid (∀ k, k < i → badRow nm (needOf needs k) = false)) (fun iv8 _ => nm.length - (intOf iv8).toNat)
      case atStart => exact ⟨0, by omega, rfl, Lib.hid rfl, Lib.hid (fun k hk => by omega)⟩
      case round =>
        obtain ⟨i, hi, rfl, HW, HB⟩ := hrel
        obtain rfl := HW.out
        by_cases hil : i < nm.length
        · have hi1 : (i : Int) < (nm.length : Int) := by omega
          obtain ⟨u, hu, hcu⟩ := HOF.out i
          obtain ⟨ss, hss⟩ : ∃ ss, needOf needs i = ss := ⟨_, rfl⟩
          have HSS := Lib.hid hss
          rw [hss] at hu
          obtain ⟨au, cu, rfl, hu1, hu2, hu3⟩ := hu
          unfold maxLen at hu2
          have HCU := Lib.hid (hcu wr (Below.refl _ _))
          have HU3 := Lib.hid hu3
          clear hcu hss hu3 HW
          go_wp2_with (first | (go_at_call 24; refine HCU.out.mono ?_; rintro e w6 ⟨rfl, hw6⟩; obtain rfl := hw6.symm))
          go_loopw [10] (fun iv10 w1 => ∃ (j : Nat), j ≤ ss.length ∧ iv10 = iv j ∧ Hid (w1 = wr) ∧ Hid (∀ k, k < j → ∀ s, ss[k]? = some s → 0 ≤ Lib.idxOfS nm s)) (fun iv10 _ => ss.length - (intOf iv10).toNat)
          case atStart => exact ⟨0, by omega, rfl, Lib.hid rfl, Lib.hid (fun k hk => by omega)⟩
          case round =>
            obtain ⟨j, hj, rfl, HW, HG⟩ := hrel
            obtain rfl := HW.out
            by_cases hjl : j < ss.length
            · have hj1 : (j : Int) < (ss.length : Int) := by omega
              rcases HU3.out with h0 | ⟨bs, os, rfl, hcs⟩
              · rw [h0] at hjl; simp at hjl
              obtain ⟨s, hs⟩ : ∃ s, ss[j]? = some s := ⟨_, List.getElem?_eq_getElem hjl⟩
              have f0 := hcs j s hs
              obtain ⟨k, hk⟩ : ∃ k, Lib.idxOfS nm s = k := ⟨_, rfl⟩
              have HH := Lib.hid (HPL.out wr (Below.refl _ _) s)
              rw [hk] at HH
              have HS := Lib.hid (And.intro hs hk)
              clear hcs hs hk
              by_cases hneg : k < 0
              · have HBE := Lib.hid (show badE nm needs = some i from find_first hil (by
                  rw [HSS.out]
                  unfold badRow
                  rw [List.any_eq_true]
                  exact ⟨s, List.mem_of_getElem? HS.out.1, by rw [HS.out.2]; simpa using hneg⟩) (fun q hq => HB.out q hq))
                have HPB := Lib.hid (post_bad (w0 := wr) (w' := wr) (needs := needs) H8.out HDU.out HBE.out (Below.refl _ _))
                go_wp2_with (first | (go_at_call 23; refine HH.out.mono ?_; rintro e w6 ⟨rfl, hw6⟩; obtain rfl := hw6.symm))
                refine bodyPost_ret (v := .tuple #[.slice none 0 0, iv i, .int .i64 6]) (by simp [results, Try.results11, go_sem]) rfl ?_
                exact HPB.out
              · have hneg2 : 0 ≤ k := by omega
                have HNG := Lib.hid hneg2
                go_wp2_with (first | (go_at_call 23; refine HH.out.mono ?_; rintro e w6 ⟨rfl, hw6⟩; obtain rfl := hw6.symm))
                refine ⟨⟨j + 1, by omega, by go_num, by first | exact Lib.hid rfl | exact Lib.hid trivial, Lib.hid (fun k2 hk2 s2 hs2 => ?_)⟩, by simp [intOf]; omega⟩
                by_cases e : k2 = j
                · rw [e, HS.out.1] at hs2
                  obtain rfl := Option.some.inj hs2
                  rw [HS.out.2]; exact HNG.out
                · exact HG.out k2 (by omega) s2 hs2
            · obtain rfl : j = ss.length := by omega
              have HBR : Hid (badRow nm (needOf needs i) = false) := Lib.hid (by
                rw [HSS.out]
                unfold badRow
                rw [List.any_eq_false]
                intro s hs
                obtain ⟨k, hk, e⟩ := List.getElem_of_mem hs
                have := HG.out k hk s (by rw [List.getElem?_eq_getElem hk, e])
                simp; omega)
              go_wp2_with fail
              refine ⟨⟨i + 1, by omega, by go_num, by first | exact Lib.hid rfl | exact Lib.hid trivial, Lib.hid (fun k hk => ?_)⟩, by simp [intOf]; omega⟩
              by_cases e : k = i
              · rw [e]; exact HBR.out
              · exact HB.out k (by omega)
        · obtain rfl : i = nm.length := by omega
          obtain ⟨w0, hw0⟩ : ∃ w0 : World, w0 = wr := ⟨_, rfl⟩
          subst hw0
          have HBE := Lib.hid (show badE nm needs = none from find_none HB.out)
          have HBR := Lib.hid HB.out
          have hmk := fun w => make51 w nm.length (by omega)
          have HMS := Lib.hid (MemR.start w0 nm.length)
          obtain ⟨i9, hi9, hz90, hz91, hz92⟩ := info_parts info3
          clear HB hil HW
          go_wp2_with fail
          clear hmk
          go_loopw [11] (fun v11 w1 => ∃ (ao : Option Addr) (co : Nat) (out : List Nat), v11 = .slice ao out.length co ∧ Hid (MemR w0 nm.length w1 (.slice ao out.length co) out) ∧ Hid (out.Nodup ∧ (∀ x ∈ out, x < nm.length) ∧ goO nm (edgeRow nm needs) (nm.length - out.length) out = orderP nm (edgeRow nm needs))) (fun v11 _ => nm.length - lenV v11)
          case atStart => exact ⟨none, 0, [], rfl, HMS, Lib.hid ⟨by simp, by simp, rfl⟩⟩
          case round =>
            clear HMS
            obtain ⟨ao, co, out, rfl, HM, HO⟩ := hrel
            obtain ⟨q, hq⟩ : ∃ q, out.length = q := ⟨_, rfl⟩
            have HQ := Lib.hid hq
            rw [hq] at HM ⊢
            have hql := len_le HO.out.1 HO.out.2.1
            rw [hq] at hql
            clear hq
            by_cases hqn : q < nm.length
            · have hqn1 : (q : Int) < (nm.length : Int) := by omega
              obtain ⟨we, hwe⟩ : ∃ we : World, we = wr := ⟨_, rfl⟩
              subst hwe
              go_wp2_with fail
              go_loopw [13, 14] (fun v13 v14 w1 => ∃ (i : Nat), i ≤ nm.length ∧ v13 = bestV (bestP nm (edgeRow nm needs) out i) ∧ v14 = iv i ∧ Hid (Below we.heap.size we w1)) (fun _ v14 _ => nm.length - (intOf v14).toNat)
              case atStart => exact ⟨0, by omega, rfl, rfl, Lib.hid (Below.refl _ _)⟩
              case round =>
                obtain ⟨i, hi, hv13, rfl, HW⟩ := hrel
                obtain ⟨bo, hbo⟩ : ∃ bo, bestP nm (edgeRow nm needs) out i = bo := ⟨_, rfl⟩
                have HBO := Lib.hid hbo
                rw [hbo] at hv13
                have HMW := Lib.hid (HM.out.any HW.out)
                clear hbo
                by_cases hil : i < nm.length
                · have hi1 : (i : Int) < (nm.length : Int) := by omega
                  have HNW := Lib.hid (HN.out.below HMW.out.bel)
                  rcases HN3.out with h0 | ⟨bn, on, rfl, hcn⟩
                  · rw [h0] at hil; simp at hil
                  have HCN := Lib.hid hcn
                  obtain ⟨x, hx⟩ : ∃ x, nm[i]? = some x := ⟨_, List.getElem?_eq_getElem hil⟩
                  have f0 := (HMW.out.bel.cell (World.block_lt_of_cell? w0 _ (hcn i x hx))).trans (hcn i x hx)
                  have hxd : nm.getD i ByteArray.empty = x := by rw [List.getD_eq_getElem?_getD, hx]; rfl
                  have HXD := Lib.hid hxd
                  have f1 := HMW.out.th.cell i hil
                  obtain ⟨u, hu, hcu⟩ := HOF.out i
                  have cs24 := fun dd os => Calls.regrown_of (((hcu (grow (redrawn wr dd) os) (HMW.out.bel.trans ((below_regrown wr dd os).mono HMW.out.bel.size)))).mono fun e w' h => ⟨h.1, by rw [h.2]; exact Below.refl _ _⟩)
                  have cs25 := fun dd os => Calls.regrown_of (((ready25 (grow (redrawn wr dd) os) (.slice (some ⟨bn, on, none⟩) nm.length cn) u nm (needOf needs i) w0.heap.size nm.length out (HNW.out.below (below_regrown wr dd os)) ((hu.below HMW.out.bel).below (below_regrown wr dd os)) (HMW.out.th.below (below_regrown wr dd os)) (HBR.out i hil))).mono fun e w' h => ⟨h.1, by rw [h.2]; exact Below.refl _ _⟩)
                  obtain ⟨t, ht⟩ : ∃ t, out.contains i = t := ⟨_, rfl⟩
                  obtain ⟨r, hr⟩ : ∃ r, ((ids nm (needOf needs i)).all fun x => out.contains x.toNat) = r := ⟨_, rfl⟩
                  simp only [hr] at cs25
                  rw [ht] at f1
                  have hnx : nextP (edgeRow nm needs) out i = (!t && r) := by
                    unfold nextP readyP
                    rw [show edgeRow nm needs i = once (ids nm (needOf needs i)) from rfl, ready_once, ht, hr]
                  have HNX := Lib.hid hnx
                  have HBN := Lib.hid (best_next nm (edgeRow nm needs) out i)
                  have rf0 := cell_regrown f0
                  have rf1 := cell_regrown f1
                  clear hcn hx hxd f0 f1 hu hcu ht hr hnx
                  cases t with
                  | true =>
                    have HB2 : Hid (bestP nm (edgeRow nm needs) out (i + 1) = bo) := Lib.hid (by rw [HBN.out, HNX.out, HBO.out]; rfl)
                    clear cs24 cs25 HBN HNX
                    go_upto_region 24 with fail
                    refine wp_region_quiet_below (by kernel_rfl) (by kernel_rfl) ?_
                    iterate 28 go_big_quiet_step (fail)
                    refine wpQuiet_nil ?_; intro _ hw'; obtain ⟨⟨dq, osq⟩, hw''⟩ := hw'; subst hw''
                    go_wp2_with fail
                    exact ⟨⟨i + 1, by omega, by rw [HB2.out]; exact hv13, by go_num, Lib.hid (HW.out.trans ((below_regrown _ dq osq).mono HW.out.size))⟩, by simp [intOf]; omega⟩
                  | false =>
                    cases r with
                    | false =>
                      have HB2 : Hid (bestP nm (edgeRow nm needs) out (i + 1) = bo) := Lib.hid (by rw [HBN.out, HNX.out, HBO.out]; rfl)
                      clear HBN HNX
                      go_upto_region 24 with fail
                      refine wp_region_quiet_below (by kernel_rfl) (by kernel_rfl) ?_
                      iterate 28 go_big_quiet_step (first | exact cs24 _ _ | exact cs25 _ _)
                      refine wpQuiet_nil ?_; intro _ hw'; obtain ⟨⟨dq, osq⟩, hw''⟩ := hw'; subst hw''
                      go_wp2_with fail
                      exact ⟨⟨i + 1, by omega, by rw [HB2.out]; exact hv13, by go_num, Lib.hid (HW.out.trans ((below_regrown _ dq osq).mono HW.out.size))⟩, by simp [intOf]; omega⟩
                    | true =>
                      cases bo with
                      | none =>
                        have HB2 : Hid (bestP nm (edgeRow nm needs) out (i + 1) = some i) := Lib.hid (by rw [HBN.out, HNX.out, HBO.out]; rfl)
                        clear HBN HNX
                        change _ = Value.int .i64 (-1) at hv13; subst hv13
                        go_upto_region 24 with fail
                        refine wp_region_quiet_below (by kernel_rfl) (by kernel_rfl) ?_
                        iterate 28 go_big_quiet_step (first | exact cs24 _ _ | exact cs25 _ _)
                        refine wpQuiet_nil ?_; intro _ hw'; obtain ⟨⟨dq, osq⟩, hw''⟩ := hw'; subst hw''
                        go_wp2_with fail
                        exact ⟨⟨i + 1, by omega, by rw [HB2.out]; rfl, by go_num, Lib.hid (HW.out.trans ((below_regrown _ dq osq).mono HW.out.size))⟩, by simp [intOf]; omega⟩
                      | some c =>
                        change _ = Value.int .i64 (c : Int) at hv13; subst hv13
                        have hci := (best_some i c HBO.out).1
                        have hcl : c < nm.length := by omega
                        have hcl1 : (c : Int) < (nm.length : Int) := by omega
                        have hcl0 : ¬ (c : Int) < 0 := by omega
                        obtain ⟨y, hy⟩ : ∃ y, nm[c]? = some y := ⟨_, List.getElem?_eq_getElem hcl⟩
                        have f2 := (HMW.out.bel.cell (World.block_lt_of_cell? w0 _ (HCN.out c y hy))).trans (HCN.out c y hy)
                        have hyd : nm.getD c ByteArray.empty = y := by rw [List.getD_eq_getElem?_getD, hy]; rfl
                        have rf2 := cell_regrown f2
                        obtain ⟨b, hb⟩ : ∃ b, Op.bytesLess x.toList y.toList = b := ⟨_, rfl⟩
                        have hlt : ltN nm i c = b := by unfold ltN; rw [HXD.out, hyd]; exact hb
                        have HLT := Lib.hid hlt
                        clear hy f2 hyd hlt hci hcl
                        cases b with
                        | true =>
                          have HB2 : Hid (bestP nm (edgeRow nm needs) out (i + 1) = some i) := Lib.hid (by rw [HBN.out, HNX.out, HBO.out, show betterP nm (some c) i = ltN nm i c from rfl, HLT.out]; rfl)
                          clear HBN HNX
                          go_upto_region 24 with fail
                          refine wp_region_quiet_below (by kernel_rfl) (by kernel_rfl) ?_
                          iterate 28 go_big_quiet_step (first | exact cs24 _ _ | exact cs25 _ _)
                          refine wpQuiet_nil ?_; intro _ hw'; obtain ⟨⟨dq, osq⟩, hw''⟩ := hw'; subst hw''
                          go_wp2_with fail
                          exact ⟨⟨i + 1, by omega, by rw [HB2.out]; rfl, by go_num, Lib.hid (HW.out.trans ((below_regrown _ dq osq).mono HW.out.size))⟩, by simp [intOf]; omega⟩
                        | false =>
                          have HB2 : Hid (bestP nm (edgeRow nm needs) out (i + 1) = some c) := Lib.hid (by rw [HBN.out, HNX.out, HBO.out, show betterP nm (some c) i = ltN nm i c from rfl, HLT.out]; rfl)
                          clear HBN HNX
                          go_upto_region 24 with fail
                          refine wp_region_quiet_below (by kernel_rfl) (by kernel_rfl) ?_
                          iterate 28 go_big_quiet_step (first | exact cs24 _ _ | exact cs25 _ _)
                          refine wpQuiet_nil ?_; intro _ hw'; obtain ⟨⟨dq, osq⟩, hw''⟩ := hw'; subst hw''
                          go_wp2_with fail
                          exact ⟨⟨i + 1, by omega, by rw [HB2.out]; rfl, by go_num, Lib.hid (HW.out.trans ((below_regrown _ dq osq).mono HW.out.size))⟩, by simp [intOf]; omega⟩
                · obtain rfl : i = nm.length := by omega
                  clear hil
                  cases bo with
                  | none =>
                    change _ = Value.int .i64 (-1) at hv13; subst hv13
                    have HOO : Hid (out = orderP nm (edgeRow nm needs)) := Lib.hid (by
                      rw [← HO.out.2.2, HQ.out]
                      obtain ⟨d, hd⟩ : ∃ d, nm.length - q = d + 1 := ⟨nm.length - q - 1, by omega⟩
                      rw [hd, goO, HBO.out])
                    have HM := HMW
                    clear HMW HW HBO
                    obtain ⟨wD, hwD⟩ : ∃ wD : World, wD = wr := ⟨_, rfl⟩
                    have HWD := Lib.hid hwD
                    clear hwD
                    go_wp2_with fail
                    go_loopw [15] (fun v15 wr => ∃ (i : Nat), i ≤ nm.length ∧ v15 = iv i ∧ Hid (wr = wD) ∧ Hid (∀ k, k < i → out.contains k = true)) (fun v15 _ => nm.length - (intOf v15).toNat)
                    case atStart => exact ⟨0, by omega, rfl, Lib.hid HWD.out.symm, Lib.hid (fun k hk => by omega)⟩
                    case round =>
                      obtain ⟨i, hi, rfl, HW, HB⟩ := hrel
                      have hMD := HM.out
                      rw [← HWD.out] at hMD
                      have HMD := Lib.hid hMD
                      clear hMD HM HWD
                      obtain rfl := HW.out
                      by_cases hil : i < nm.length
                      · have hi1 : (i : Int) < (nm.length : Int) := by omega
                        have c1 := HMD.out.th.cell i hil
                        obtain ⟨m, hm⟩ : ∃ m, out.contains i = m := ⟨_, rfl⟩
                        rw [hm] at c1
                        have HMM := Lib.hid hm
                        clear hm
                        cases m with
                        | false =>
                          have HCY : Hid (cycAt nm.length (orderP nm (edgeRow nm needs)) = some i) := Lib.hid (find_first hil (by
                            rw [← HOO.out, HMM.out]; rfl) (fun k hk => by
                            rw [← HOO.out, HB.out k hk]; rfl))
                          have HPC := Lib.hid (post_cyc H8.out HDU.out HBE.out HCY.out HMD.out.bel)
                          go_wp2_with fail
                          refine bodyPost_ret (v := .tuple #[.slice none 0 0, iv i, .int .i64 9]) (by simp [results, Try.results11, go_sem]) rfl ?_
                          exact HPC.out
                        | true =>
                          go_wp2_with fail
                          refine ⟨⟨i + 1, by omega, by go_num, by first | exact Lib.hid rfl | exact Lib.hid trivial, Lib.hid (fun k hk => ?_)⟩, by simp [intOf]; omega⟩
                          by_cases e : k = i
                          · rw [e]; exact HMM.out
                          · exact HB.out k (by omega)
                      · obtain rfl : i = nm.length := by omega
                        have HCY : Hid (cycAt nm.length (orderP nm (edgeRow nm needs)) = none) := Lib.hid (find_none (fun k hk => by
                          rw [← HOO.out, HB.out k hk]; rfl))
                        have HPC := Lib.hid (post_ok (vo := .slice ao q co) H8.out HDU.out HBE.out HCY.out HMD.out.bel (Nat.le_refl _) (by
                          have := HMD.out.out
                          rw [← HOO.out]
                          exact this))
                        go_wp2_with fail
                        refine bodyPost_ret (v := .tuple #[.slice ao q co, iv 0, .int .i64 0]) (by simp [results, Try.results11, go_sem]) rfl ?_
                        exact HPC.out
                  | some b =>
                    change _ = Value.int .i64 (b : Int) at hv13; subst hv13
                    obtain ⟨hbl, hbn, _⟩ := best_some _ b HBO.out
                    have hbl1 : (b : Int) < (nm.length : Int) := by omega
                    have hbl0 : ¬ (b : Int) < 0 := by omega
                    have hbo2 : b ∉ out := by
                      unfold nextP at hbn
                      rw [Bool.and_eq_true] at hbn
                      simpa using hbn.1
                    have c1 := HMW.out.th.cell b hbl
                    have c2 : wr.frozen? ⟨w0.heap.size, b, none⟩ = false := by
                      obtain ⟨cs, h1, _⟩ := HMW.out.th
                      exact thaw_of h1 b
                    have HOW := HMW.out.out
                    rw [HQ.out] at HOW
                    have hov : ∀ x, (Value.slice ao q co).ownBlock = some x → x ≠ w0.heap.size := fun x hx e => by
                      obtain ⟨cs, h1, _⟩ := HMW.out.th
                      rcases HOW.2 with ⟨e1, _⟩ | ⟨g', c', cur, e1, hB, hgg, _⟩
                      · rw [e1] at hx; cases hx
                      · rw [e1] at hx
                        have : g' = x := by simpa [Value.ownBlock] using hx
                        subst this
                        rw [e, h1] at hgg
                        simp at hgg
                    have HOW2 : Hid ((wr.setCell ⟨w0.heap.size, b, none⟩ (.bool true)).ownsRow w0.heap.size 3 1 (.slice ao q co) q (out.map iv)) := Lib.hid ⟨HOW.1, by
                      rcases HOW.2 with h4 | ⟨y, c', cur, e1, hB, hg, h5⟩
                      · exact .inl h4
                      · exact .inr ⟨y, c', cur, e1, hB, (Below.heap_setCell _ _ _ _ (hov y (by rw [e1]; rfl))).trans hg, h5⟩⟩
                    have HSZ := Lib.hid HMW.out.bel.size
                    have hsz1 : (wr.setCell ⟨w0.heap.size, b, none⟩ (.bool true)).heap.size = wr.heap.size := by simp [World.setCell]
                    have HAP := Lib.hid (fun (w2 : World) (gg cap : Nat) (h1 : w2.ownsRow w0.heap.size 3 1 (.slice (some ⟨gg, 0, none⟩) (q + 1) cap) (q + 1) (out.map iv ++ [iv b])) (h2 : ((wr.setCell ⟨w0.heap.size, b, none⟩ (.bool true)).alloc (.cells #[iv b] 3)).grownBy w2 (Value.slice ao q co).ownBlock) => HMW.out.app hbl (by rw [HQ.out]; exact h1) h2)
                    have HBB := Lib.hid (And.intro hbl hbo2)
                    clear hbn HOW hov hbl hbo2
                    go_wp2_with (at_builtin; refine wpList_append_lies _ rfl _ _ _ rfl w0.heap.size 3 i9 _ 1 8 Try.underlying26 hi9 hz90 hz91 hz92 rfl (by decide) _ q _ rfl (HOW2.out.alloc _) ⟨wr.heap.size, 0, none⟩ 1 1 [iv b] rfl rfl (World.news_of_block (cs := #[iv b]) (t := 3) (fr := (0, 0)) (by have := heap_alloc_new (wr.setCell ⟨w0.heap.size, b, none⟩ (.bool true)) (.cells #[iv b] 3); rw [hsz1] at this; exact this)) (by simp [Value.oneCell']) (by omega) (by unfold maxLen; omega) (by omega) (by have := HSZ.out; simp [hsz1]; omega) (wr.heap.size + 1) (by simp [hsz1]) ?_; intro gg cap w2 hown2 hgrow hat hlt2; have hm8 := HAP.out w2 gg cap hown2 hgrow; have HM8 := Lib.hid hm8; clear hown2 hgrow hat hlt2 hm8)
                    have hol2 : (out ++ [b]).length = q + 1 := by simp [HQ.out]
                    refine ⟨⟨some ⟨gg, 0, none⟩, cap, out ++ [b], by rw [hol2], Lib.hid (by have := HM8.out; rw [HQ.out] at this; rw [hol2]; exact this), Lib.hid ⟨?_, ?_, ?_⟩⟩, by simp [lenV]; omega⟩
                    · rw [List.nodup_append]
                      refine ⟨HO.out.1, by simp, fun a ha b' hb' => ?_⟩
                      simp at hb'
                      rw [hb']
                      exact fun e => HBB.out.2 (by rw [← e]; exact ha)
                    · intro x hx
                      rw [List.mem_append, List.mem_singleton] at hx
                      rcases hx with hx | hx
                      · exact HO.out.2.1 x hx
                      · rw [hx]; exact HBB.out.1
                    · rw [← HO.out.2.2, HQ.out, hol2]
                      obtain ⟨d, hd⟩ : ∃ d, nm.length - q = d + 1 := ⟨nm.length - q - 1, by omega⟩
                      rw [hd, show nm.length - (q + 1) = d by omega, goO, HBO.out]
            · obtain rfl : q = nm.length := by omega
              have HOO : Hid (out = orderP nm (edgeRow nm needs)) := Lib.hid (by
                rw [← HO.out.2.2, HQ.out, Nat.sub_self]; rfl)
              clear hqn
              obtain ⟨wD, hwD⟩ : ∃ wD : World, wD = wr := ⟨_, rfl⟩
              have HWD := Lib.hid hwD
              clear hwD
              go_wp2_with fail
              go_loopw [15] (fun v15 wr => ∃ (i : Nat), i ≤ nm.length ∧ v15 = iv i ∧ Hid (wr = wD) ∧ Hid (∀ k, k < i → out.contains k = true)) (fun v15 _ => nm.length - (intOf v15).toNat)
              case atStart => exact ⟨0, by omega, rfl, Lib.hid HWD.out.symm, Lib.hid (fun k hk => by omega)⟩
              case round =>
                obtain ⟨i, hi, rfl, HW, HB⟩ := hrel
                have hMD := HM.out
                rw [← HWD.out] at hMD
                have HMD := Lib.hid hMD
                clear hMD HM HWD
                obtain rfl := HW.out
                by_cases hil : i < nm.length
                · have hi1 : (i : Int) < (nm.length : Int) := by omega
                  have c1 := HMD.out.th.cell i hil
                  obtain ⟨m, hm⟩ : ∃ m, out.contains i = m := ⟨_, rfl⟩
                  rw [hm] at c1
                  have HMM := Lib.hid hm
                  clear hm
                  cases m with
                  | false =>
                    have HCY : Hid (cycAt nm.length (orderP nm (edgeRow nm needs)) = some i) := Lib.hid (find_first hil (by
                      rw [← HOO.out, HMM.out]; rfl) (fun k hk => by
                      rw [← HOO.out, HB.out k hk]; rfl))
                    have HPC := Lib.hid (post_cyc H8.out HDU.out HBE.out HCY.out HMD.out.bel)
                    go_wp2_with fail
                    refine bodyPost_ret (v := .tuple #[.slice none 0 0, iv i, .int .i64 9]) (by simp [results, Try.results11, go_sem]) rfl ?_
                    exact HPC.out
                  | true =>
                    go_wp2_with fail
                    refine ⟨⟨i + 1, by omega, by go_num, by first | exact Lib.hid rfl | exact Lib.hid trivial, Lib.hid (fun k hk => ?_)⟩, by simp [intOf]; omega⟩
                    by_cases e : k = i
                    · rw [e]; exact HMM.out
                    · exact HB.out k (by omega)
                · obtain rfl : i = nm.length := by omega
                  have HCY : Hid (cycAt nm.length (orderP nm (edgeRow nm needs)) = none) := Lib.hid (find_none (fun k hk => by
                    rw [← HOO.out, HB.out k hk]; rfl))
                  have HPC := Lib.hid (post_ok (vo := .slice ao nm.length co) H8.out HDU.out HBE.out HCY.out HMD.out.bel (Nat.le_refl _) (by
                    have := HMD.out.out
                    rw [← HOO.out]
                    exact this))
                  go_wp2_with fail
                  refine bodyPost_ret (v := .tuple #[.slice ao nm.length co, iv 0, .int .i64 0]) (by simp [results, Try.results11, go_sem]) rfl ?_
                  exact HPC.out
end Go.Proofs.Ytfhmfdmcdmcaiaa
