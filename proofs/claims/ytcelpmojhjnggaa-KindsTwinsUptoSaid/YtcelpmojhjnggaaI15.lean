/- The document's place. -/
import Derived.Test.YtcelpmojhjnggaaI14
import Derived.Deep.Cut
import Derived.Deep.DeepCutAuto
import Derived.Deep.RegionLaw
import Derived.Deep.AppendLies
import Derived.Deep.DrawnRows
namespace Go.Proofs.Ytcelpmojhjnggaa
open Go Go.RowKit Go.Sort Go.Deep KindsP
set_option maxHeartbeats 2000000
set_option maxRecDepth 100000

theorem toList_ne {z x : ByteArray} (h : z ≠ x) : ¬ z.toList = x.toList := by
  intro e
  rw [Lib.toList_data, Lib.toList_data] at e
  exact h (ByteArray.ext (Array.toList_inj.1 e))
theorem place_any (w : World) (v : Value) (zs : List ByteArray) (h : NamesIs w v zs) (x : ByteArray) : Calls Try.prog 41 #[v, .string x] w fun e w' => e = .returned (.int .i64 (Lib.idxOfS zs x)) ∧ w' = w := by
  obtain ⟨⟨a, c, rfl, h2, h3⟩, _⟩ := h
  have H3 := Lib.hid h3
  clear h3
  go_enter Try.func41, Try.ntmps41
  go_wp2_with fail
  go_loopw [5] (fun iv wr => ∃ k : Nat, k ≤ zs.length ∧ iv = .int .i64 k ∧ Hid (∀ j, j < k → zs.getD j ByteArray.empty ≠ x) ∧ wr = w) (fun iv _ => zs.length - (intOf iv).toNat)
  case atStart => exact ⟨0, by omega, rfl, Lib.hid (by intro j hj; omega), rfl⟩
  case round =>
    obtain ⟨k, hk, rfl, HN, rfl⟩ := hrel
    by_cases hlt : k < zs.length
    · obtain h0 | ⟨b, o, rfl, h6⟩ := H3.out
      · rw [h0] at hlt; simp at hlt
      have hc := h6 k hlt
      obtain ⟨z, hz⟩ : ∃ z, zs.getD k ByteArray.empty = z := ⟨_, rfl⟩
      rw [hz] at hc
      have HZ := Lib.hid hz
      clear hz h6
      by_cases hx : z = x
      · subst hx
        go_wp2_with fail
        go_ret
        refine ⟨?_, rfl⟩
        have := Lib.idxOfS_hit zs zs.length k z hlt (Nat.le_refl _) HZ.out HN.out
        rw [List.take_length] at this
        rw [this]; rfl
      · have hne : (z.toList == x.toList) = false := by simpa using toList_ne hx
        have hx' := Lib.hid hx
        clear hx
        go_wp2_with fail
        refine ⟨⟨k + 1, by omega, by go_num, Lib.hid (fun j hj => ?_), trivial⟩, by simp [intOf]; omega⟩
        by_cases hjk : j = k
        · subst hjk; rw [HZ.out]; exact hx'.out
        · exact HN.out j (by omega)
    · obtain rfl : k = zs.length := by omega
      go_wp2_with fail
      go_ret
      refine ⟨?_, rfl⟩
      have := Lib.idxOfS_miss zs zs.length x HN.out
      rw [List.take_length] at this
      rw [this]; rfl
end Go.Proofs.Ytcelpmojhjnggaa

/- The document's Put: what one round of its loops does to the memory, in plain words. -/
namespace Go.Proofs.Ytcelpmojhjnggaa
open Go Go.RowKit Go.Sort Go.Deep KindsP
set_option maxHeartbeats 1000000
set_option maxRecDepth 100000

abbrev five5 (t0 : Int) (t1 t2 : ByteArray) (t3 : Option Addr) (t4 t5 : Nat) (t6 : Option Addr) (t7 t8 : Nat) : Array Value := #[.int .i64 t0, .string t1, .string t2, .slice t3 t4 t5, .slice t6 t7 t8]
/-- rows behind B that a slice does not own itself -/
abbrev Beside (B : Nat) (wr : World) (v : Value) : Nat → Prop := fun b => B ≤ b ∧ b < wr.heap.size ∧ v.ownBlock ≠ some b
theorem grow_round {wr w2 w3 : World} {B U D f i cap gg cp : Nat} {ao : Option Addr} {vs : List Value} {ts : List Ty} {t : Ty} {t0 : Int} {t1 t2 : ByteArray} {t3 : Option Addr} {t4 t5 : Nat} {t6 : Option Addr} {t7 t8 : Nat}
    (hU : U < B) (hBr : B ≤ wr.heap.size)
    (hown : wr.ownsRow B 31 5 (.slice ao i cap) i (vs.flatMap cells5)) (hvs : Vals (LiesIn (Beside B wr (.slice ao i cap)) wr D) vs ts)
    (hb2 : Below wr.heap.size wr w2) (hlu : LiesIn (fun b => wr.heap.size ≤ b) w2 D (.agg (five5 t0 t1 t2 t3 t4 t5 t6 t7 t8)) t)
    (hg : (w2.alloc (.cells (five5 t0 t1 t2 t3 t4 t5 t6 t7 t8) 31)).grownBy w3 (Value.slice ao i cap).ownBlock)
    (hown3 : w3.ownsRow B 31 5 (.slice (some ⟨gg, 0, none⟩) (i + 1) cp) (i + 1) (vs.flatMap cells5 ++ (five5 t0 t1 t2 t3 t4 t5 t6 t7 t8).toList))
    (hat : (Value.slice ao i cap).ownBlock = some gg ∨ gg = w2.heap.size + 1) :
    (w3.setCell ⟨U, f, none⟩ (.slice (some ⟨gg, 0, none⟩) (i + 1) cp)).ownsRow B 31 5 (.slice (some ⟨gg, 0, none⟩) (i + 1) cp) (i + 1) ((vs ++ [Value.agg (five5 t0 t1 t2 t3 t4 t5 t6 t7 t8)]).flatMap cells5) ∧
    Vals (LiesIn (Beside B (w3.setCell ⟨U, f, none⟩ (.slice (some ⟨gg, 0, none⟩) (i + 1) cp)) (.slice (some ⟨gg, 0, none⟩) (i + 1) cp)) (w3.setCell ⟨U, f, none⟩ (.slice (some ⟨gg, 0, none⟩) (i + 1) cp)) D) (vs ++ [Value.agg (five5 t0 t1 t2 t3 t4 t5 t6 t7 t8)]) (ts ++ [t]) ∧
    (∀ b, b < wr.heap.size → b ≠ U → (Value.slice ao i cap).ownBlock ≠ some b → (w3.setCell ⟨U, f, none⟩ (.slice (some ⟨gg, 0, none⟩) (i + 1) cp)).heap[b]? = wr.heap[b]?) ∧
    (∀ cs ty fr, wr.heap[U]? = some (.cells cs ty fr) → w3.heap[U]? = some (.cells cs ty fr) ∧ (w3.setCell ⟨U, f, none⟩ (.slice (some ⟨gg, 0, none⟩) (i + 1) cp)).heap[U]? = some (.cells (cs.setIfInBounds f (.slice (some ⟨gg, 0, none⟩) (i + 1) cp)) ty fr)) ∧
    wr.heap.size ≤ (w3.setCell ⟨U, f, none⟩ (.slice (some ⟨gg, 0, none⟩) (i + 1) cp)).heap.size ∧
    (∀ (w : World) (N : Nat), N ≤ U → Below N w wr → Below N w (w3.setCell ⟨U, f, none⟩ (.slice (some ⟨gg, 0, none⟩) (i + 1) cp))) := by
  have hgo := fun g hg => hown.lt g hg
  have hsz2 := hb2.size
  have hs3 := hg.size
  simp at hs3
  have hset : ∀ b, b ≠ U → (w3.setCell ⟨U, f, none⟩ (.slice (some ⟨gg, 0, none⟩) (i + 1) cp)).heap[b]? = w3.heap[b]? := fun b hb => Below.heap_setCell _ _ _ _ hb
  have hsz : (w3.setCell ⟨U, f, none⟩ (.slice (some ⟨gg, 0, none⟩) (i + 1) cp)).heap.size = w3.heap.size := by simp
  have hold : ∀ b, b < wr.heap.size → (Value.slice ao i cap).ownBlock ≠ some b → w3.heap[b]? = wr.heap[b]? := by
    intro b hlt h3
    have e2 := heap_alloc_old w2 (.cells (five5 t0 t1 t2 t3 t4 t5 t6 t7 t8) 31) (r := b) (by omega)
    exact (hg.block b (by simp <;> omega) (Ne.symm h3)).trans (e2.trans (hb2.block b hlt))
  have hUn : (Value.slice ao i cap).ownBlock ≠ some U := fun e => by have := (hgo U e).1; omega
  generalize hW : w3.setCell ⟨U, f, none⟩ (.slice (some ⟨gg, 0, none⟩) (i + 1) cp) = W at hset hsz ⊢
  have hggU : gg ≠ U := by
    intro e
    rcases hat with h | h
    · exact hUn (by rw [h, e])
    · omega
  refine ⟨?_, ?_, fun b h1 h2 h3 => (hset b h2).trans (hold b h1 h3), fun cs ty fr h => ?_, by omega, fun w N hN hb => ?_⟩
  · rw [List.flatMap_append]
    refine ⟨hown3.1, ?_⟩
    rcases hown3.2 with ⟨h, _⟩ | ⟨g, c, cur, h1, h2, h3, h4⟩
    · simp at h
    · obtain ⟨rfl, rfl⟩ : gg = g ∧ cp = c := by simpa using h1
      exact .inr ⟨gg, cp, cur, h1, h2, (hset gg hggU).trans h3, h4⟩
  · refine (hvs.mono (fun _ _ h => h.kept (fun b hb hlt => ?_))).snoc (hlu.kept (fun b hb hlt => ?_))
    · obtain ⟨h1, h2, h3⟩ := hb
      refine ⟨⟨h1, by omega, ?_⟩, (hset b (by omega)).trans (hold b h2 h3)⟩
      rcases hat with h | h
      · intro e; apply h3; rw [h]; exact e
      · intro e; have : gg = b := by simpa [Value.ownBlock] using e
        omega
    · have hne : ∀ g, (Value.slice ao i cap).ownBlock = some g → g ≠ b := fun g hg => by have := (hgo g hg).2; omega
      have e2 := heap_alloc_old w2 (.cells (five5 t0 t1 t2 t3 t4 t5 t6 t7 t8) 31) (r := b) hlt
      have e3 := hg.block b (by simp <;> omega) (fun e => hne b e.symm rfl)
      refine ⟨⟨by omega, by omega, ?_⟩, (hset b (by omega)).trans (e3.trans e2)⟩
      intro e
      have : gg = b := by simpa [Value.ownBlock] using e
      rcases hat with h | h
      · exact hne gg h this
      · omega
  · have hlt := (Array.getElem?_eq_some_iff.1 h).1
    have h3 := (hold U hlt hUn).trans h
    refine ⟨h3, ?_⟩
    rw [← hW]
    simp [World.setCell, Array.getElem?_modify, h3]
  · rw [← hW]
    exact (((hb.trans (hb2.mono (by omega))).alloc (by omega) _).grown hg (by simp <;> omega) (fun g hg => by have := (hgo g hg).1; omega)).setCell (by simp; omega) _
end Go.Proofs.Ytcelpmojhjnggaa

/- The document's Put: the walk. -/
namespace Go.Proofs.Ytcelpmojhjnggaa
open Go Go.RowKit Go.Sort Go.Deep KindsP
set_option maxHeartbeats 4000000
set_option maxRecDepth 100000
attribute [local go_sem ↓] Go.wp_at_zero Go.wp_at_succ

theorem cellLater {w wx : World} {a : Addr} {v : Value} (hb : Below w.heap.size w wx) (h : w.cell? a = some v) : wx.cell? a = some v := (hb.cell (World.block_lt_of_cell? _ _ h)).trans h
theorem belowDrew {w w' : World} (h : Below w.drew.heap.size w.drew w') : Below w.heap.size w w' := ⟨h.os, h.tape, h.output, h.size, h.block⟩
abbrev W2 (w : World) (k : Int) (p n : ByteArray) (va vr : Value) : World := (w.alloc (.cells #[.int .i64 k, .string p, .string n, va, vr] 31)).alloc (.cells #[.int .i64 0, .string ⟨#[]⟩, .string ⟨#[]⟩, .slice none 0 0, .slice none 0 0] 31)
theorem alloc3_at (w : World) (o0 o1 o2 : Obj) : (((w.alloc o0).alloc o1).alloc o2).heap[w.heap.size]? = some o0 ∧ (((w.alloc o0).alloc o1).alloc o2).heap[w.heap.size + 1]? = some o1 ∧ (((w.alloc o0).alloc o1).alloc o2).heap[w.heap.size + 1 + 1]? = some o2 ∧ Below w.heap.size w (((w.alloc o0).alloc o1).alloc o2) := by
  refine ⟨?_, ?_, ?_, (((Below.refl _ _).alloc (Nat.le_refl _) _).alloc (by simp) _).alloc (by simp <;> omega) _⟩
  · exact (heap_alloc_old _ _ (by simp <;> omega)).trans ((heap_alloc_old _ _ (by simp)).trans (heap_alloc_new w _))
  · refine (heap_alloc_old _ _ (by simp)).trans ?_
    have := heap_alloc_new (w.alloc o0) o1
    rwa [show (w.alloc o0).heap.size = w.heap.size + 1 by simp] at this
  · have := heap_alloc_new ((w.alloc o0).alloc o1) o2
    rwa [show ((w.alloc o0).alloc o1).heap.size = w.heap.size + 1 + 1 by simp] at this
theorem put7_x (e D : Nat) (w : World) (k : Int) (p n : ByteArray) (aa ar an at0 : Option Addr) (ca cr nn cn nt ct : Nat) (la lr : List Ty) (g : Ty → Ty) (I : Int)
    (hra : RowOf (Lies w e) w (.slice aa la.length ca) la) (hrr : RowOf (Lies w e) w (.slice ar lr.length cr) lr) (hla : la.length ≤ 1000000000) (hlr : lr.length ≤ 1000000000)
    (hix : (k == 9) = true → I < 0 ∨ (0 ≤ I ∧ (nt : Int) ≤ I))
    (hI : ∀ w', Below w.heap.size w w' → Calls Try.prog 41 #[.slice an nn cn, .string n] w' fun e w'' => e = .returned (.int .i64 I) ∧ w'' = w')
    (hca : ∀ (i : Nat) (hi : i < la.length) (W : World) (v : Value), Below w.heap.size w W → Lies W e v la[i] → Calls Try.prog 20 #[v, .slice an nn cn, .slice at0 nt ct] W fun r w' => ∃ u, r = .returned u ∧ LiesIn (fun b => W.heap.size ≤ b) w' D u (g la[i]) ∧ Below W.heap.size W w')
    (hcr : ∀ (i : Nat) (hi : i < lr.length) (W : World) (v : Value), Below w.heap.size w W → Lies W e v lr[i] → Calls Try.prog 20 #[v, .slice an nn cn, .slice at0 nt ct] W fun r w' => ∃ u, r = .returned u ∧ LiesIn (fun b => W.heap.size ≤ b) w' D u (g lr[i]) ∧ Below W.heap.size W w') :
    Calls Try.prog 20 #[.agg #[.int .i64 k, .string p, .string n, .slice aa la.length ca, .slice ar lr.length cr], .slice an nn cn, .slice at0 nt ct] w fun r w' => ∃ u, r = .returned u ∧ LiesIn (fun b => w.heap.size ≤ b) w' (D + 1) u (.mk k p n (la.map g) (lr.map g)) ∧ Below w.heap.size w w' := by
  have HI := Lib.hid (hI _ (alloc2_below w (.cells #[.int .i64 k, .string p, .string n, .slice aa la.length ca, .slice ar lr.length cr] 31) (.cells #[.int .i64 0, .string ⟨#[]⟩, .string ⟨#[]⟩, .slice none 0 0, .slice none 0 0] 31)))
  have HCA := Lib.hid hca
  have HCR := Lib.hid hcr
  obtain ⟨_, _, hx1, hcc, hcm, haf⟩ := hra.form
  simp only [Value.slice.injEq, true_and] at hx1
  obtain ⟨rfl, rfl⟩ := hx1
  obtain ⟨_, _, hx2, hcc2, hcm2, hrf⟩ := hrr.form
  simp only [Value.slice.injEq, true_and] at hx2
  obtain ⟨rfl, rfl⟩ := hx2
  have HA := Lib.hid hra
  have HR := Lib.hid hrr
  obtain ⟨i9, hi9, hz90, hz91, hz92⟩ := info_parts Try.info31'
  clear hI hca hcr hra hrr
  go_enter Try.func20, Try.ntmps20
  go_upto_if 13 with fail
  go_cut [7] (fun _ wc => wc = W2 w k p n (.slice aa la.length ca) (.slice ar lr.length cr))
  case first =>
    cases h9 : (k == 9)
    · go_wp2_with fail
      go_meet
      case rel => rfl
    · rcases hix h9 with hlt | ⟨hge, hle⟩
      all_goals
        have h9' := h9
        clear h9
        go_wp2_with (first | (go_at_call 41; refine HI.out.mono ?_; rintro e w5 ⟨rfl, hw5⟩; obtain rfl := hw5.symm))
        go_meet
        case rel => rfl
  case rest =>
    obtain rfl := hcut
    clear HI hix
    go_wp2_with fail
    go_loopw [9] (fun iv w1 => ∃ (i : Nat) (av : Value) (vs : List Value), i ≤ la.length ∧ iv = .int .i64 i ∧ w1.heap[w.heap.size]? = some (.cells #[.int .i64 k, .string p, .string n, .slice aa la.length ca, .slice ar lr.length cr] 31) ∧ w1.heap[w.heap.size + 1]? = some (.cells #[.int .i64 0, .string ⟨#[]⟩, .string ⟨#[]⟩, .slice none 0 0, .slice none 0 0] 31) ∧ w1.heap[w.heap.size + 1 + 1]? = some (.cells #[.int .i64 k, .string p, .string n, av, .slice none 0 0] 31) ∧ w1.ownsRow (w.heap.size + 1 + 1 + 1) 31 5 av i (vs.flatMap cells5) ∧ Vals (LiesIn (Beside (w.heap.size + 1 + 1 + 1) w1 av) w1 D) vs ((la.take i).map g) ∧ w.heap.size + 1 + 1 + 1 ≤ w1.heap.size ∧ Below w.heap.size w w1) (fun iv _ => la.length - (intOf iv).toNat)
    case atStart =>
      obtain ⟨g0, g1, g2, g3⟩ := alloc3_at w (.cells #[.int .i64 k, .string p, .string n, .slice aa la.length ca, .slice ar lr.length cr] 31) (.cells #[.int .i64 0, .string ⟨#[]⟩, .string ⟨#[]⟩, .slice none 0 0, .slice none 0 0] 31) (.cells #[.int .i64 k, .string p, .string n, .slice none 0 0, .slice none 0 0] 31)
      exact ⟨0, .slice none 0 0, [], by omega, rfl, g0, g1, g2, World.ownsRow_nil _ _ _ _, ⟨by simp, by simp⟩, by simp, g3⟩
    case round =>
      obtain ⟨w1, rfl⟩ : ∃ x, x = wr := ⟨_, rfl⟩
      obtain ⟨i, av, vs, hi, rfl, hk0, hk1, hku, hown, hvs, hBs, hb⟩ := hrel
      obtain ⟨ao1, cap1, rfl⟩ := own_shape hown
      have n3 : w1.cell? ⟨w.heap.size, 3, none⟩ = some (.slice aa la.length ca) := by simp [World.cell?, hk0]
      have u3 : w1.cell? ⟨w.heap.size + 1 + 1, 3, none⟩ = some (.slice ao1 i cap1) := by simp [World.cell?, hku]
      have lu : w.heap.size + 1 + 1 < w1.heap.size := (Array.getElem?_eq_some_iff.1 hku).1
      have HK0 := Lib.hid hk0
      have HK1 := Lib.hid hk1
      have HKU := Lib.hid hku
      have HB := Lib.hid hb
      have HO := Lib.hid hown
      have HV := Lib.hid hvs
      have HBs := Lib.hid hBs
      skip
      have hsz := hb.size
      clear hk0 hk1 hku hb hown hvs hBs
      by_cases hlt : i < la.length
      · obtain ⟨b, o, rfl⟩ := haf (by omega)
        obtain ⟨x0, x1, x2, x3, x4, hl, hf⟩ := HA.out.get i la[i] (by simp)
        obtain ⟨f0, f1, f2, f3, f4⟩ := hf.below HB.out
        have HC := Lib.hid (fun (W : World) (hbW : Below w1.heap.size w1 W) => HCA.out i hlt W _ (HB.out.trans (hbW.mono hsz)) (Lies.below (HB.out.trans (hbW.mono hsz)) _ _ _ hl))
        have HT := Lib.hid (show (la.take (i + 1)).map g = (la.take i).map g ++ [g la[i]] by rw [List.take_add_one, List.getElem?_eq_getElem hlt, List.map_append]; rfl)
        obtain ⟨q0, q1, q2, q3, q4, q5, q6, q7, q8, rfl, rfl, rfl, rfl, rfl⟩ := lies_form hl
        clear hl hf
        go_upto_region 9 with fail
        go_region_law (first | (refine step_append_lies _ (by rfl) (.tmp 46) (.tmp 55) 23 (by rfl) (w.heap.size + 1 + 1 + 1) 31 i9 _ 5 88 Try.underlying23 hi9 hz90 hz91 hz92 rfl (by decide) _ i _ (by rfl) ((own_below HO.out HB2.out).alloc _) ⟨w2.heap.size, 0, none⟩ 1 1 [.int .i64 t0, .string t1, .string t2, .slice t3 t4 t5, .slice t6 t7 t8] (by rfl) rfl (World.news_of_block (cs := #[.int .i64 t0, .string t1, .string t2, .slice t3 t4 t5, .slice t6 t7 t8]) (t := 31) (fr := (0, 0)) (heap_alloc_new w2 _)) (by simp [Value.oneCell']) (by omega) (by unfold maxLen; omega) (by omega) (by simp; omega) (w2.heap.size + 1) (by simp) ?_; intro gg cp w3 hown3 hgrow hat hlt3; have HQ := Lib.hid (grow_round (U := w.heap.size + 1 + 1) (f := 3) (by omega) HBs.out HO.out HV.out HB2.out HU.out hgrow hown3 hat); obtain ⟨hk3, -⟩ := HQ.out.2.2.2.1 _ _ _ HKU.out; have x3 : w3.cell? ⟨w.heap.size + 1 + 1, 3, none⟩ = some (.slice ao1 i cap1) := (by simp [World.cell?, hk3]); have z3 : w3.frozen? ⟨w.heap.size + 1 + 1, 3, none⟩ = false := (by simp [World.frozen?, hk3]); clear hown3 hgrow hat hk3) | (go_simp; go_at_call 20; refine (HC.out _ ?_).mono ?_; exact (Below.refl _ _).drew; rintro r w2 ⟨u, rfl, hlu, hb2'⟩; have hb2 := belowDrew hb2'; have hlu' : LiesIn (fun b => w1.heap.size ≤ b) w2 D u (g la[i]) := hlu; obtain ⟨c0, c1, c2, c3, c4, rfl⟩ := lies_five (LiesIn.lies _ _ _ hlu'); obtain ⟨t0, t1, t2, t3, t4, t5, t6, t7, t8, rfl, rfl, rfl, rfl, rfl⟩ := lies_form (LiesIn.lies _ _ _ hlu'); have HU := Lib.hid hlu'; have HB2 := Lib.hid hb2; have v3 := cellLater hb2 u3; have lu2 : w.heap.size + 1 + 1 < w2.heap.size := Nat.lt_of_lt_of_le lu hb2.size; have lw2 := Nat.le_trans HBs.out hb2.size; clear hlu hlu' hb2 hb2'))
        all_goals
          go_wp2_with fail
          obtain ⟨h1, h2, h3, h4, h5, h6⟩ := HQ.out
          have hne : ∀ b, b < w.heap.size + 1 + 1 + 1 → (Value.slice ao1 i cap1).ownBlock ≠ some b := fun b hb e => by have := (HO.out.lt _ e).1; omega
          have hBs := HBs.out
          refine ⟨⟨i + 1, .slice (some ⟨gg, 0, none⟩) (i + 1) cp, vs ++ [.agg #[.int .i64 t0, .string t1, .string t2, .slice t3 t4 t5, .slice t6 t7 t8]], by omega, by go_num, (h3 _ (by omega) (by omega) (hne _ (by omega))).trans HK0.out, (h3 _ (by omega) (by omega) (hne _ (by omega))).trans HK1.out, (h4 _ _ _ HKU.out).2, h1, ?_, by omega, h6 w _ (by omega) HB.out⟩, by simp [intOf]; omega⟩
          · rw [HT.out]; exact h2
      · obtain rfl : i = la.length := by omega
        go_wp2_with fail
        have HR1 : Hid (RowIn (fun b => w.heap.size + 1 + 1 + 1 ≤ b) (LiesIn (fun b => w.heap.size + 1 + 1 + 1 ≤ b) w1 D) w1 (.slice ao1 la.length cap1) (la.map g)) := by
          have hv := HV.out
          rw [List.take_length] at hv
          exact Lib.hid (RowIn.of_own (by rw [List.length_map]; exact HO.out) (hv.mono (fun _ _ h => h.kept (fun b h1 _ => ⟨h1.1, rfl⟩))) (fun _ h => h))
        have HL1 := Lib.hid HBs.out
        have hl1 := HBs.out
        clear n3 u3 hsz HO HV HBs HA HCA haf lu
        go_loopw [10] (fun iv wr => ∃ (i : Nat) (av : Value) (vs : List Value), i ≤ lr.length ∧ iv = .int .i64 i ∧ wr.heap[w.heap.size]? = some (.cells #[.int .i64 k, .string p, .string n, .slice aa la.length ca, .slice ar lr.length cr] 31) ∧ wr.heap[w.heap.size + 1]? = some (.cells #[.int .i64 0, .string ⟨#[]⟩, .string ⟨#[]⟩, .slice none 0 0, .slice none 0 0] 31) ∧ wr.heap[w.heap.size + 1 + 1]? = some (.cells #[.int .i64 k, .string p, .string n, .slice ao1 la.length cap1, av] 31) ∧ wr.ownsRow (w1.heap.size) 31 5 av i (vs.flatMap cells5) ∧ Vals (LiesIn (Beside (w1.heap.size) wr av) wr D) vs ((lr.take i).map g) ∧ w1.heap.size ≤ wr.heap.size ∧ (∀ b, b < w1.heap.size → b ≠ w.heap.size + 1 + 1 → wr.heap[b]? = w1.heap[b]?) ∧ Below w.heap.size w wr) (fun iv _ => lr.length - (intOf iv).toNat)
        case atStart =>
          exact ⟨0, .slice none 0 0, [], by omega, rfl, HK0.out, HK1.out, HKU.out, World.ownsRow_nil _ _ _ _, ⟨by simp, by simp⟩, Nat.le_refl _, fun _ _ _ => rfl, HB.out⟩
        case round =>
          obtain ⟨i, av, vs, hi, rfl, hk0, hk1, hku, hown, hvs, hBs, hkeep, hb⟩ := hrel
          obtain ⟨ao, cap, rfl⟩ := own_shape hown
          have n3 : wr.cell? ⟨w.heap.size, 4, none⟩ = some (.slice ar lr.length cr) := by simp [World.cell?, hk0]
          have u3 : wr.cell? ⟨w.heap.size + 1 + 1, 4, none⟩ = some (.slice ao i cap) := by simp [World.cell?, hku]
          have lu : w.heap.size + 1 + 1 < wr.heap.size := (Array.getElem?_eq_some_iff.1 hku).1
          have HK0 := Lib.hid hk0
          have HK1 := Lib.hid hk1
          have HKU := Lib.hid hku
          have HB := Lib.hid hb
          have HO := Lib.hid hown
          have HV := Lib.hid hvs
          have HBs := Lib.hid hBs
          have HKEEP := Lib.hid hkeep
          have hsz := hb.size
          clear hk0 hk1 hku hb hown hvs hBs hkeep
          by_cases hlt : i < lr.length
          · obtain ⟨b, o, rfl⟩ := hrf (by omega)
            obtain ⟨x0, x1, x2, x3, x4, hl, hf⟩ := HR.out.get i lr[i] (by simp)
            obtain ⟨f0, f1, f2, f3, f4⟩ := hf.below HB.out
            have HC := Lib.hid (fun (W : World) (hbW : Below wr.heap.size wr W) => HCR.out i hlt W _ (HB.out.trans (hbW.mono hsz)) (Lies.below (HB.out.trans (hbW.mono hsz)) _ _ _ hl))
            have HT := Lib.hid (show (lr.take (i + 1)).map g = (lr.take i).map g ++ [g lr[i]] by rw [List.take_add_one, List.getElem?_eq_getElem hlt, List.map_append]; rfl)
            obtain ⟨q0, q1, q2, q3, q4, q5, q6, q7, q8, rfl, rfl, rfl, rfl, rfl⟩ := lies_form hl
            clear hl hf
            go_upto_region 13 with fail
            go_region_law (first | (refine step_append_lies _ (by rfl) (.tmp 66) (.tmp 75) 23 (by rfl) (w1.heap.size) 31 i9 _ 5 88 Try.underlying23 hi9 hz90 hz91 hz92 rfl (by decide) _ i _ (by rfl) ((own_below HO.out HB2.out).alloc _) ⟨w2.heap.size, 0, none⟩ 1 1 [.int .i64 t0, .string t1, .string t2, .slice t3 t4 t5, .slice t6 t7 t8] (by rfl) rfl (World.news_of_block (cs := #[.int .i64 t0, .string t1, .string t2, .slice t3 t4 t5, .slice t6 t7 t8]) (t := 31) (fr := (0, 0)) (heap_alloc_new w2 _)) (by simp [Value.oneCell']) (by omega) (by unfold maxLen; omega) (by omega) (by simp; omega) (w2.heap.size + 1) (by simp) ?_; intro gg cp w3 hown3 hgrow hat hlt3; have HQ := Lib.hid (grow_round (U := w.heap.size + 1 + 1) (f := 4) (by omega) HBs.out HO.out HV.out HB2.out HU.out hgrow hown3 hat); obtain ⟨hk3, -⟩ := HQ.out.2.2.2.1 _ _ _ HKU.out; have x3 : w3.cell? ⟨w.heap.size + 1 + 1, 4, none⟩ = some (.slice ao i cap) := (by simp [World.cell?, hk3]); have z3 : w3.frozen? ⟨w.heap.size + 1 + 1, 4, none⟩ = false := (by simp [World.frozen?, hk3]); clear hown3 hgrow hat hk3) | (go_simp; go_at_call 20; refine (HC.out _ ?_).mono ?_; exact (Below.refl _ _).drew; rintro r w2 ⟨u, rfl, hlu, hb2'⟩; have hb2 := belowDrew hb2'; have hlu' : LiesIn (fun b => wr.heap.size ≤ b) w2 D u (g lr[i]) := hlu; obtain ⟨c0, c1, c2, c3, c4, rfl⟩ := lies_five (LiesIn.lies _ _ _ hlu'); obtain ⟨t0, t1, t2, t3, t4, t5, t6, t7, t8, rfl, rfl, rfl, rfl, rfl⟩ := lies_form (LiesIn.lies _ _ _ hlu'); have HU := Lib.hid hlu'; have HB2 := Lib.hid hb2; have v3 := cellLater hb2 u3; have lu2 : w.heap.size + 1 + 1 < w2.heap.size := Nat.lt_of_lt_of_le lu hb2.size; have lw2 := Nat.le_trans HBs.out hb2.size; clear hlu hlu' hb2 hb2'))
            all_goals
              go_wp2_with fail
              obtain ⟨h1, h2, h3, h4, h5, h6⟩ := HQ.out
              have hne : ∀ b, b < w1.heap.size → (Value.slice ao i cap).ownBlock ≠ some b := fun b hb e => by have := (HO.out.lt _ e).1; omega
              have hBs := HBs.out
              refine ⟨⟨i + 1, .slice (some ⟨gg, 0, none⟩) (i + 1) cp, vs ++ [.agg #[.int .i64 t0, .string t1, .string t2, .slice t3 t4 t5, .slice t6 t7 t8]], by omega, by go_num, (h3 _ (by omega) (by omega) (hne _ (by omega))).trans HK0.out, (h3 _ (by omega) (by omega) (hne _ (by omega))).trans HK1.out, (h4 _ _ _ HKU.out).2, h1, ?_, by omega, ?_, h6 w _ (by omega) HB.out⟩, by simp [intOf]; omega⟩
              · rw [HT.out]; exact h2
              · exact fun b hb1 hb2 => (h3 b (by omega) hb2 (hne b hb1)).trans (HKEEP.out b hb1 hb2)
          · obtain rfl : i = lr.length := by omega
            have hk0 := HK0.out
            have hk1 := HK1.out
            have hku := HKU.out
            have l1 : w.heap.size + 1 < wr.heap.size := (Array.getElem?_eq_some_iff.1 hk1).1
            have y0 : wr.cell? ⟨w.heap.size + 1 + 1, 0, none⟩ = some (.int .i64 k) := by simp [World.cell?, hku]
            have y1 : wr.cell? ⟨w.heap.size + 1 + 1, 1, none⟩ = some (.string p) := by simp [World.cell?, hku]
            have y2 : wr.cell? ⟨w.heap.size + 1 + 1, 2, none⟩ = some (.string n) := by simp [World.cell?, hku]
            have y3 : wr.cell? ⟨w.heap.size + 1 + 1, 3, none⟩ = some (.slice ao1 la.length cap1) := by simp [World.cell?, hku]
            have y4 : wr.cell? ⟨w.heap.size + 1 + 1, 4, none⟩ = some (.slice ao lr.length cap) := by simp [World.cell?, hku]
            have d0 : wr.cell? ⟨w.heap.size + 1, 0, none⟩ = some (.int .i64 0) := by simp [World.cell?, hk1]
            have d1 : wr.cell? ⟨w.heap.size + 1, 1, none⟩ = some (.string ⟨#[]⟩) := by simp [World.cell?, hk1]
            have d2 : wr.cell? ⟨w.heap.size + 1, 2, none⟩ = some (.string ⟨#[]⟩) := by simp [World.cell?, hk1]
            have d3 : wr.cell? ⟨w.heap.size + 1, 3, none⟩ = some (.slice none 0 0) := by simp [World.cell?, hk1]
            have d4 : wr.cell? ⟨w.heap.size + 1, 4, none⟩ = some (.slice none 0 0) := by simp [World.cell?, hk1]
            have fz : ∀ i, wr.frozen? ⟨w.heap.size + 1, i, none⟩ = false := fun i => by simp [World.frozen?, hk1]
            clear hk0 hk1 hku
            go_wp2_with fail
            have hR1 := HR1.out
            have hR2 : RowIn (fun b => w1.heap.size ≤ b) (LiesIn (fun b => w1.heap.size ≤ b) wr D) wr (.slice ao lr.length cap) (lr.map g) := by
              have hv := HV.out
              rw [List.take_length] at hv
              exact RowIn.of_own (by rw [List.length_map]; exact HO.out) (hv.mono (fun _ _ h => h.kept (fun b h1 _ => ⟨h1.1, rfl⟩))) (fun _ h => h)
            have hl1 := HL1.out
            refine bodyPost_ret (v := .agg #[.int .i64 k, .string p, .string n, .slice ao1 la.length cap1, .slice ao lr.length cap]) (by simp [results, Try.results20, go_sem, d0, d1, d2, d3, d4]) rfl ⟨_, rfl, ⟨_, _, rfl, ?_, ?_⟩, ?_⟩
            · have K1 : ∀ b, w.heap.size + 1 + 1 + 1 ≤ b → b < w1.heap.size → _ ∧ _ := fun b h1 h2 => ⟨show w.heap.size ≤ b by omega, (keep5 wr (w.heap.size + 1) (.int .i64 k) (.string p) (.string n) (.slice ao1 la.length cap1) (.slice ao lr.length cap) b (by omega)).trans (HKEEP.out b h2 (by omega))⟩
              exact hR1.kept (fun v t h => h.kept K1) K1
            · have K2 : ∀ b, w1.heap.size ≤ b → b < wr.heap.size → _ ∧ _ := fun b h1 h2 => ⟨show w.heap.size ≤ b by omega, (keep5 wr (w.heap.size + 1) (.int .i64 k) (.string p) (.string n) (.slice ao1 la.length cap1) (.slice ao lr.length cap) b (by omega))⟩
              exact hR2.kept (fun v t h => h.kept K2) K2
            · exact ((((HB.out.setCell (by simp <;> omega) _).setCell (by simp <;> omega) _).setCell (by simp <;> omega) _).setCell (by simp <;> omega) _).setCell (by simp <;> omega) _
end Go.Proofs.Ytcelpmojhjnggaa
