/- The walk of does. -/
import Derived.Test.YtihnmhemhcmmoaaA3
import Derived.BigRegion
import Derived.Deep.RegionLaw
namespace Go.Proofs.Ytihnmhemhcmmoaa
open Go Go.RowKit Go.Maps Go.WideMaps
set_option maxHeartbeats 2000000
set_option maxRecDepth 100000

theorem own_shape {w : World} {B e sz : Nat} {v : Value} {n : Nat} {xs : List Value} (h : w.ownsRow B e sz v n xs) : ∃ ao cap, v = .slice ao n cap := by
  rcases h.2 with ⟨rfl, rfl⟩ | ⟨g, cap, cur, rfl, _⟩
  · exact ⟨_, _, rfl⟩
  · exact ⟨_, _, rfl⟩
theorem own_block {w : World} {B e sz : Nat} {v : Value} {n g : Nat} {xs : List Value} (h : w.ownsRow B e sz v n xs) (hg : v.ownBlock = some g) : B ≤ g ∧ ∃ cur, w.heap[g]? = some (.cells cur e) := by
  rcases h.2 with ⟨rfl, _⟩ | ⟨g', cap, cur, rfl, hB, hgg, _⟩
  · cases hg
  · have : g' = g := by simpa [Value.ownBlock] using hg
    subst this
    exact ⟨hB, cur, hgg⟩
theorem info31 : (Try.prog.info? 31).map (fun i => (i.zero, i.size, i.bytes)) = some (some (.agg #[.int .i64 0, .int .i64 0]), 2, 16) := by kernel_rfl
/-- a copy more is laid behind what was put out -/
theorem In.outGrown {w0 w : World} {base r : Nat} {K : Kit} {s : MS} (h : In w0 base K r w s) (m : Mv) {ao : Option Addr} {c : Nat} (hv : w.cell? ⟨K.bo, 6, none⟩ = some (.slice ao s.out.length c)) {v2 : Value} {w2 : World}
    (ho : w2.ownsRow base 31 2 v2 (s.out.length + 1) (flat s.out ++ [.int .i64 m.tc, .int .i64 m.frm])) (hg : w.grownBy w2 (Value.slice ao s.out.length c).ownBlock) :
    w2.cell? ⟨K.bo, 6, none⟩ = some (.slice ao s.out.length c) ∧ K.bo < w2.heap.size ∧ (∀ i, w2.frozen? ⟨K.bo, i, none⟩ = false) ∧ In w0 base K r (w2.setCell ⟨K.bo, 6, none⟩ v2) { s with out := s.out ++ [m] } ∧ (∀ {a : Nat} {cs : Array Value} {t : TypeId}, t ≠ 31 → w.heap[a]? = some (.cells cs t) → w2.heap[a]? = some (.cells cs t)) := by
  obtain ⟨vo, h1, h2, h3⟩ := h.ob
  have hvo : vo = .slice ao s.out.length c := by
    have h6 : w.cell? ⟨K.bo, 6, none⟩ = some vo := cell_of h1 rfl
    rw [hv] at h6
    exact (Option.some.inj h6).symm
  subst hvo
  have hrow : ∀ b, (Value.slice ao s.out.length c).ownBlock = some b → base ≤ b ∧ ∃ cur, w.heap[b]? = some (.cells cur 31) := fun b hb => own_block h3 hb
  have hbk : ∀ {a : Nat} {cs : Array Value} {t : TypeId}, t ≠ 31 → w.heap[a]? = some (.cells cs t) → w2.heap[a]? = some (.cells cs t) := by
    intro a cs t ht ha
    refine (hg.block a (lt_of ha) (fun e => ?_)).trans ha
    obtain ⟨_, cur, hc⟩ := hrow a e.symm
    rw [ha] at hc
    simp only [Option.some.injEq, Obj.cells.injEq] at hc
    exact ht hc.2.1
  have hok : ∀ {e : TypeId} {size n : Nat} {v : Value} {xs : List Value}, e ≠ 31 → w.ownsRow base e size v n xs → w2.ownsRow base e size v n xs := by
    intro e size n v xs he hv
    refine hv.kept hg ?_
    cases hvb : v.ownBlock with
    | none => exact .inl rfl
    | some b =>
      refine .inr (fun hb => ?_)
      obtain ⟨_, cur, hc⟩ := own_block hv hvb
      obtain ⟨_, cur', hc'⟩ := hrow b (by rw [← hb])
      rw [hc] at hc'
      simp only [Option.some.injEq, Obj.cells.injEq] at hc'
      exact he hc'.2.1
  have him : ∀ {b n : Nat} {f : Int → Option Value}, IM w b n f → IM w2 b n f := by
    intro b n f hf
    obtain ⟨es, ck, hb⟩ := hf.block
    refine hf.kept hg (fun e => ?_)
    obtain ⟨_, cur, hc⟩ := hrow b e.symm
    rw [hb] at hc
    cases hc
  have hbo := hbk (by decide) h1
  have hg2 := gset w2 K.bo 6 v2
  have hbel : Below base w0 w2 := h.bel.grown hg h.bsz (fun k hk => (hrow k (by rw [← hk])).1)
  refine ⟨cell_of hbo rfl, lt_of hbo, thaw_of hbo, ?_, hbk⟩
  refine ⟨hbel.setCell h.pbo _, by have := hg.size; have := h.bsz; simp [World.setCell]; omega, h.pbo, h.pre, h.pps, h.len, h.nd, ⟨_, setAt _ hbo, own_kept (hok (by decide) h2) hbo (fun _ e => by cases e) hg2, ?_⟩, fun i x p hx hp => blk_kept (hbk (by decide) (h.wt i x p hx hp)) hbo (fun _ e => by cases e) hg2, im_kept (him h.rd) hbo hg2, im_kept (him h.tm) hbo hg2, ?_, h.m1, h.m2, h.vf, h.vl, h.vn, h.vt, h.vw, h.fl, h.i64⟩
  · have := own_kept ho hbo (fun _ e => by cases e) hg2
    simpa [flat] using this
  · obtain ⟨h4, h5⟩ := h.wm
    refine wm_kept ⟨him h4, fun c => ?_⟩ hbo (fun _ e => by cases e) hg2 (fun f hf => im_kept hf hbo hg2)
    rcases h5 c with h | ⟨v, h6, h7⟩
    · exact .inl h
    · exact .inr ⟨v, h6, hok (by decide) h7⟩
theorem MS.wt_setW {s : MS} {i : Nat} (hi : i < s.ws.length) (x : Wt) : (s.setW i x).wt i = x := by
  unfold MS.wt MS.setW
  simp [List.getD_eq_getElem?_getD, hi]
theorem does21 {w0 w : World} {base r : Nat} {K : Kit} {s : MS} (h : In w0 base K r w s) {i : Nat} (hi : i < s.ws.length) (hr : r < maxLen) (ho : s.out.length ≤ 1000000000) :
    Calls Try.prog 21 #[.pointer (some ⟨K.bo, 0, none⟩), pv K.ps (some i)] w fun e w' => e = .returned (.tuple #[]) ∧ In w0 base K (r + 1) w' (doesP K.toF s i) := by
  obtain ⟨p, hp, hpb⟩ := h.block hi
  have hpv := pv_some hp
  rw [hpv]
  have h6 := h.i64 i _ (MS.wt_get hi)
  have hW := h.setWt hi hp 2 (.bool true) { s.wt i with done := true } rfl (fun l hl => h.vn i _ l (MS.wt_get hi) hl) ⟨h6.1, h6.2⟩
  obtain ⟨t, ht⟩ : ∃ t, (s.wt i).tc = t := ⟨_, rfl⟩
  obtain ⟨f, hf⟩ : ∃ f, (s.wt i).frm = f := ⟨_, rfl⟩
  have c2 : w.cell? ⟨p, 2, none⟩ = some (.bool (s.wt i).done) := cell_of hpb rfl
  have fp := thaw_of hpb
  have lp := lt_of hpb
  have HD : Hid (doesP K.toF s i = lessP K.toF { (s.setW i { s.wt i with done := true }) with out := s.out ++ [⟨t, f⟩] } f) := Lib.hid (by unfold doesP; rw [← ht, ← hf]; rfl)
  have HO := Lib.hid ho
  have hi1 : i < (s.setW i { s.wt i with done := true }).ws.length := by simpa [MS.setW] using hi
  have HX := Lib.hid (MS.wt_setW hi { s.wt i with done := true })
  have HI1 := Lib.hid hi1
  have HHP := Lib.hid hp
  have H6 := Lib.hid h6
  have HW := Lib.hid hW
  have HHT := Lib.hid ht
  have HHF := Lib.hid hf
  clear h hW hpb hp hpv h6 ho hi1 ht hf
  go_enter Try.func21, Try.ntmps21
  go_upto_region 1 with fail
  obtain ⟨wS, hwS⟩ : ∃ x, w.setCell ⟨p, 2, none⟩ (.bool true) = x := ⟨_, rfl⟩
  have hW := HW.out
  rw [hwS] at hW ⊢
  have hpb := hW.wt i _ p (MS.wt_get HI1.out) HHP.out
  rw [HX.out] at hpb
  have d0 : wS.cell? ⟨p, 0, none⟩ = some (.int .i64 t) := by have h0 : wS.cell? ⟨p, 0, none⟩ = some (.int .i64 (s.wt i).tc) := cell_of hpb rfl; rwa [HHT.out] at h0
  have d1 : wS.cell? ⟨p, 1, none⟩ = some (.int .i64 f) := by have h0 : wS.cell? ⟨p, 1, none⟩ = some (.int .i64 (s.wt i).frm) := cell_of hpb rfl; rwa [HHF.out] at h0
  have lpS := lt_of hpb
  obtain ⟨vo, hob, hrow, hout⟩ := hW.ob
  obtain ⟨ao, cc, rfl⟩ := own_shape hout
  obtain ⟨n, hn⟩ : ∃ n, (s.setW i { s.wt i with done := true }).out.length = n := ⟨_, rfl⟩
  have d6 : wS.cell? ⟨K.bo, 6, none⟩ = some (.slice ao n cc) := by rw [← hn]; exact cell_of hob rfl
  have lbS := lt_of hob
  have hal := hW.grow ((Below.refl wS.heap.size wS).alloc (Nat.le_refl _) (.cells #[.int .i64 t, .int .i64 f] 31)).drew
  have e6 : (wS.alloc (.cells #[.int .i64 t, .int .i64 f] 31)).drew.cell? ⟨K.bo, 6, none⟩ = some (.slice ao n cc) := (World.cell?_of_block (w := wS) (Below.heap_alloc _ _ _ lbS)).trans d6
  have hl6 : I64 f := by have := H6.out.2; rwa [HHF.out] at this
  obtain ⟨i9, hi9, hz90, hz91, hz92⟩ := info_parts info31
  rw [hn] at hout
  have HROW := Lib.hid hout
  have HBS := Lib.hid hW.bsz
  have HNL := Lib.hid (show n ≤ 1000000000 by rw [← hn]; exact HO.out)
  have HOG := Lib.hid (fun (v2 : Value) (w2 : World) (hown : w2.ownsRow base 31 2 v2 (n + 1) (flat s.out ++ [.int .i64 t, .int .i64 f])) (hg : ((wS.alloc (.cells #[.int .i64 t, .int .i64 f] 31)).drew).grownBy w2 (Value.slice ao n cc).ownBlock) => (show w2.cell? ⟨K.bo, 6, none⟩ = some (.slice ao n cc) ∧ K.bo < w2.heap.size ∧ (∀ i, w2.frozen? ⟨K.bo, i, none⟩ = false) ∧ (w2.setCell ⟨K.bo, 6, none⟩ v2).cell? ⟨p, 1, none⟩ = some (.int .i64 f) ∧ In w0 base K r (w2.setCell ⟨K.bo, 6, none⟩ v2) { (s.setW i { s.wt i with done := true }) with out := s.out ++ [⟨t, f⟩] } from by
    subst hn
    obtain ⟨g1, g2, g3, g4, _⟩ := hal.outGrown ⟨t, f⟩ e6 hown hg
    refine ⟨g1, g2, g3, ?_, g4⟩
    have hpb2 := g4.wt i _ p (MS.wt_get (s := { (s.setW i { s.wt i with done := true }) with out := s.out ++ [⟨t, f⟩] }) HI1.out) HHP.out
    have h2 : (MS.wt { (s.setW i { s.wt i with done := true }) with out := s.out ++ [⟨t, f⟩] } i) = { s.wt i with done := true } := HX.out
    rw [h2] at hpb2
    have h1 : (w2.setCell ⟨K.bo, 6, none⟩ v2).cell? ⟨p, 1, none⟩ = some (.int .i64 (s.wt i).frm) := cell_of hpb2 rfl
    rwa [HHF.out] at h1))
  have HL := Lib.hid (fun (W : World) (hin : In w0 base K r W { (s.setW i { s.wt i with done := true }) with out := s.out ++ [⟨t, f⟩] }) => less22 hin f hl6 hr)
  have HHD := HD.out
  clear hW hal hob hrow hout hpb hwS e6 HX HW HD HHT HHF H6 HHP HI1 hn
  have HD := Lib.hid HHD
  clear HHD
  go_region_law (refine step_append_lies _ (by rfl) _ _ _ (by rfl) base 31 i9 _ 2 16 Try.underlying22 hi9 hz90 hz91 hz92 rfl (by decide) _ n (flat s.out) (by rfl) ((HROW.out.alloc _).drew) ⟨wS.heap.size, 0, none⟩ 1 1 [.int .i64 t, .int .i64 f] (by rfl) (by rfl) (World.news_of_block (cs := #[.int .i64 t, .int .i64 f]) (t := 31) (fr := (0, 0)) (heap_alloc_new wS _)) (by simp [Value.oneCell']) (by omega) (by have := HNL.out; unfold maxLen; omega) (by have := HNL.out; omega) (by have := HBS.out; simp; omega) (wS.heap.size + 1) (by simp) ?_; intro gg cap w2 hown2 hgrow hat hlt2; obtain ⟨b1, b2, b3, b4, hin2⟩ := HOG.out _ w2 hown2 hgrow; have HIN2 := Lib.hid hin2; clear hown2 hgrow hat hlt2 hin2)
  all_goals
    go_wp2_with (first | (go_at_call 22; refine (HL.out _ HIN2.out).mono ?_; rintro e w5 ⟨rfl, hin5⟩; have HIN5 := Lib.hid hin5; clear hin5))
    go_end0
    exact ⟨rfl, by rw [HD.out]; exact HIN5.out⟩
end Go.Proofs.Ytihnmhemhcmmoaa
