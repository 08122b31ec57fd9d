/- A type in memory of its own, that can be spoilt: each, copied. -/
import Derived.Test.YtcelpmojhjnggaaI25
import Derived.Deep.Cut
import Derived.Deep.DeepCutAuto
import Derived.Deep.RegionWith
namespace Go.Proofs.Ytcelpmojhjnggaa
open Go Go.RowKit Go.Sort Go.Deep KindsP
set_option maxHeartbeats 2000000
set_option maxRecDepth 100000

/-- a block that nothing freezes -/
def Thawed (w : World) (b : Nat) : Prop := ∃ cs t, w.heap[b]? = some (.cells cs t (0, 0))
theorem Thawed.same {w w' : World} {b : Nat} (h : Thawed w b) (e : w'.heap[b]? = w.heap[b]?) : Thawed w' b := by
  obtain ⟨cs, t, h⟩ := h
  exact ⟨cs, t, e.trans h⟩
theorem RowIn.of_ownf {w : World} {B d : Nat} {ok : Nat → Prop} {v : Value} {vs : List Value} {ts : List Ty} (h : w.ownsRow B 31 5 v ts.length (vs.flatMap cells5)) (hv : Vals (LiesIn ok w d) vs ts) (hok : ∀ b, B ≤ b → Thawed w b → ok b) : RowIn ok (LiesIn ok w d) w v ts := by
  have hcc := fun g hg => h.cells (g := g) hg
  rcases h.2 with ⟨rfl, h0⟩ | ⟨g, cap, cur, rfl, hB, hg, hnc, hcm, _⟩
  · exact ⟨none, 0, by rw [h0], by omega, by unfold maxLen; omega, .inl (List.length_eq_zero_iff.1 h0)⟩
  · refine ⟨_, cap, rfl, hnc, hcm, .inr ⟨g, 0, rfl, hok g hB ⟨_, _, hg⟩, fun i x hx => ?_⟩⟩
    have hi : i < ts.length := (List.getElem?_eq_some_iff.1 hx).1
    have hiv : i < vs.length := by rw [hv.1]; exact hi
    have hl := hv.2 i vs[i] x (List.getElem?_eq_getElem hiv) hx
    obtain ⟨c0, c1, c2, c3, c4, e⟩ := lies_five (LiesIn.lies _ _ _ hl)
    obtain ⟨g0, g1, g2, g3, g4⟩ := fives_get vs (hv.mono (fun _ _ h => LiesIn.lies _ _ _ h)).fives i c0 c1 c2 c3 c4 (by rw [List.getElem?_eq_getElem hiv, e])
    refine ⟨c0, c1, c2, c3, c4, by rw [← e]; exact hl, ?_⟩
    have hc : ∀ (j : Nat) (u : Value), (vs.flatMap cells5)[j]? = some u → w.cell? ⟨g, 0 + j, none⟩ = some u := fun j u hu => by have := hcc g rfl j u hu; rwa [addr_add] at this
    refine ⟨hc _ _ g0, ?_, ?_, ?_, ?_⟩
    · have := hc _ _ g1; rwa [← Nat.add_assoc] at this
    · have := hc _ _ g2; rwa [← Nat.add_assoc] at this
    · have := hc _ _ g3; rwa [← Nat.add_assoc] at this
    · have := hc _ _ g4; rwa [← Nat.add_assoc] at this

theorem each44f_any (d : Nat) (w : World) (v : Value) (l : List Ty) (h : RowOf (Lies w d) w v l) (hll : l.length ≤ 1000000000)
    (ih : ∀ (i : Nat) (hi : i < l.length) (w : World) (v : Value), Lies w d v l[i] → Calls Try.prog 39 #[v] w fun e w' => ∃ u, e = .returned u ∧ LiesIn (fun b => w.heap.size ≤ b ∧ Thawed w' b) w' d u l[i] ∧ Below w.heap.size w w') :
    Calls Try.prog 44 #[v, fCopied] w fun e w' => ∃ u, e = .returned u ∧ RowIn (fun b => w.heap.size ≤ b ∧ Thawed w' b) (LiesIn (fun b => w.heap.size ≤ b ∧ Thawed w' b) w' d) w' u l ∧ Below w.heap.size w w' := by
  obtain ⟨a, c, rfl, hc, hcm, hf⟩ := h.form
  have HA := Lib.hid h
  obtain ⟨i9, hi9, hz90, hz91, hz92⟩ := info_parts Try.info31'
  clear h
  go_enter Try.func44, Try.ntmps44
  go_wp2_with fail
  go_loopw [5, 10] (fun ov iv wr => ∃ (k : Nat) (vs : List Value), k ≤ l.length ∧ iv = .int .i64 k ∧ wr.ownsRow w.heap.size 31 5 ov k (vs.flatMap cells5) ∧ Vals (LiesIn (fun b => w.heap.size ≤ b ∧ b < wr.heap.size ∧ ov.ownBlock ≠ some b ∧ Thawed wr b) wr d) vs (l.take k) ∧ Below w.heap.size w wr) (fun _ iv _ => l.length - (intOf iv).toNat)
  case atStart => exact ⟨0, [], by omega, rfl, World.ownsRow_nil _ _ _ _, ⟨by simp, by simp⟩, Below.refl _ _⟩
  case round =>
    obtain ⟨k, vs, hk, rfl, hown, hvs, hb⟩ := hrel
    obtain ⟨ao, cap, rfl⟩ := own_shape hown
    have HB := Lib.hid hb
    have HO := Lib.hid hown
    have HV := Lib.hid hvs
    have hsz := hb.size
    clear hb hown hvs
    by_cases hlt : k < l.length
    · obtain ⟨b, o, rfl⟩ := hf (by omega)
      obtain ⟨x0, x1, x2, x3, x4, hl, hf⟩ := HA.out.get k l[k] (by simp)
      obtain ⟨f0, f1, f2, f3, f4⟩ := hf.below HB.out
      have HT := Lib.hid (show l.take (k + 1) = l.take k ++ [l[k]] by rw [List.take_add_one, List.getElem?_eq_getElem hlt]; rfl)
      have HL := Lib.hid (fun w' (hb : Below wr.heap.size wr w') => Lies.below (HB.out.trans (hb.mono hsz)) _ _ _ hl)
      obtain ⟨q0, q1, q2, q3, q4, q5, q6, q7, q8, rfl, rfl, rfl, rfl, rfl⟩ := lies_form hl
      clear hl hf
      go_wp2_with (first | (go_at_call 39; refine (ih k hlt _ _ (HL.out _ ((Below.refl _ _).alloc (Nat.le_refl _) _))).mono ?_; rintro e w2 ⟨u, rfl, hlu, hb2⟩; obtain ⟨-, hb3⟩ := alloc_known hb2; obtain ⟨c0, c1, c2, c3, c4, rfl⟩ := lies_five (LiesIn.lies _ _ _ hlu); obtain ⟨t0, t1, t2, t3, t4, t5, t6, t7, t8, rfl, rfl, rfl, rfl, rfl⟩ := lies_form (LiesIn.lies _ _ _ hlu); have HU := Lib.hid hlu; have HB2 := Lib.hid hb3; have hsz2 := hb3.size; clear hb2 hb3 hlu) | (at_builtin; refine wpList_append_lies _ rfl (.tmp 14) (.tmp 18) 23 rfl w.heap.size 31 i9 _ 5 88 Try.underlying23 hi9 hz90 hz91 hz92 rfl (by decide) _ k _ rfl ((own_below HO.out HB2.out).alloc _) ⟨w2.heap.size, 0, none⟩ 1 1 [.int .i64 t0, .string t1, .string t2, .slice t3 t4 t5, .slice t6 t7 t8] rfl rfl (World.news_of_block (cs := #[.int .i64 t0, .string t1, .string t2, .slice t3 t4 t5, .slice t6 t7 t8]) (t := 31) (fr := (0, 0)) (heap_alloc_new w2 _)) (by simp [Value.oneCell']) (by omega) (by unfold maxLen; omega) (by omega) (by simp; omega) (w2.heap.size + 1) (by simp) ?_; intro gg cp w3 hown3 hgrow hat hlt3; have HG : Hid ((w2.alloc (.cells #[.int .i64 t0, .string t1, .string t2, .slice t3 t4 t5, .slice t6 t7 t8] 31)).grownBy w3 (Value.slice ao k cap).ownBlock) := hgrow; have HW3 := Lib.hid hown3; have HAT : Hid ((Value.slice ao k cap).ownBlock = some gg ∨ gg = w2.heap.size + 1) := hat; clear hown3 hgrow hat))
      have hbw : Below w.heap.size w w3 := ((HB.out.trans (HB2.out.mono hsz)).alloc (by omega) _).grown HG.out (by simp; omega) (fun g hg => (HO.out.lt g hg).1)
      have hgo := fun g hg => HO.out.lt g hg
      have hat := HAT.out
      have hold : ∀ b, (w.heap.size ≤ b ∧ b < wr.heap.size ∧ (Value.slice ao k cap).ownBlock ≠ some b ∧ Thawed wr b) → b < wr.heap.size → (w.heap.size ≤ b ∧ b < w3.heap.size ∧ (Value.slice (some ⟨gg, 0, none⟩) (k + 1) cp).ownBlock ≠ some b ∧ Thawed w3 b) ∧ w3.heap[b]? = wr.heap[b]? := by
        intro b hb hlt
        obtain ⟨h1, h2, h3, h4⟩ := hb
        have e1 : w2.heap[b]? = wr.heap[b]? := HB2.out.block b hlt
        have e2 := heap_alloc_old w2 (.cells #[.int .i64 t0, .string t1, .string t2, .slice t3 t4 t5, .slice t6 t7 t8] 31) (r := b) (by omega)
        have e3 := HG.out.block b (by simp; omega) (Ne.symm h3)
        have hs3 := HG.out.size
        simp at hs3
        refine ⟨⟨h1, by omega, ?_, h4.same (e3.trans (e2.trans e1))⟩, e3.trans (e2.trans e1)⟩
        rcases hat with h | h
        · intro e; apply h3; rw [h]; exact e
        · intro e; have : gg = b := by simpa [Value.ownBlock] using e
          omega
      have hnew : ∀ b, (wr.alloc (.cells #[.int .i64 q0, .string q1, .string q2, .slice q3 q4 q5, .slice q6 q7 q8] 31)).heap.size ≤ b ∧ Thawed w2 b → b < w2.heap.size → (w.heap.size ≤ b ∧ b < w3.heap.size ∧ (Value.slice (some ⟨gg, 0, none⟩) (k + 1) cp).ownBlock ≠ some b ∧ Thawed w3 b) ∧ w3.heap[b]? = w2.heap[b]? := by
        intro b hb' hlt
        obtain ⟨hb, h4⟩ := hb'
        simp at hb
        have hne : ∀ g, (Value.slice ao k cap).ownBlock = some g → g ≠ b := fun g hg => by have := (hgo g hg).2; omega
        have e2 := heap_alloc_old w2 (.cells #[.int .i64 t0, .string t1, .string t2, .slice t3 t4 t5, .slice t6 t7 t8] 31) (r := b) hlt
        have e3 := HG.out.block b (by simp; omega) (fun e => hne b e.symm rfl)
        have hs3 := HG.out.size
        simp at hs3
        refine ⟨⟨by omega, by omega, ?_, h4.same (e3.trans e2)⟩, e3.trans e2⟩
        intro e
        have : gg = b := by simpa [Value.ownBlock] using e
        rcases hat with h | h
        · exact hne gg h this
        · omega
      refine ⟨⟨k + 1, vs ++ [.agg #[.int .i64 t0, .string t1, .string t2, .slice t3 t4 t5, .slice t6 t7 t8]], by omega, by go_num, ?_, ?_, hbw⟩, by simp [intOf]; omega⟩
      · rw [List.flatMap_append]
        exact HW3.out
      · rw [HT.out]
        exact (HV.out.mono (fun _ _ h => h.kept hold)).snoc (HU.out.kept hnew)
    · have hkl : k = l.length := by omega
      go_wp2_with fail
      go_ret
      refine ⟨_, rfl, ?_, HB.out⟩
      subst hkl
      have := HV.out
      rw [List.take_length] at this
      exact RowIn.of_ownf HO.out (this.mono (fun _ _ h => h.kept (fun b h1 _ => ⟨⟨h1.1, h1.2.2.2⟩, rfl⟩))) (fun _ h ht => ⟨h, ht⟩)

theorem copiedf_x (d : Nat) (w : World) (k : Int) (p n : ByteArray) (va vr : Value) (la lr : List Ty) (hva : ∃ a n c, va = .slice a n c) (hvr : ∃ a n c, vr = .slice a n c)
    (HA : ∀ w', Below w.heap.size w w' → Calls Try.prog 44 #[va, fCopied] w' fun e w'' => ∃ u, e = .returned u ∧ RowIn (fun b => w'.heap.size ≤ b ∧ Thawed w'' b) (LiesIn (fun b => w'.heap.size ≤ b ∧ Thawed w'' b) w'' d) w'' u la ∧ Below w'.heap.size w' w'')
    (HR : ∀ w', Below w.heap.size w w' → Calls Try.prog 44 #[vr, fCopied] w' fun e w'' => ∃ u, e = .returned u ∧ RowIn (fun b => w'.heap.size ≤ b ∧ Thawed w'' b) (LiesIn (fun b => w'.heap.size ≤ b ∧ Thawed w'' b) w'' d) w'' u lr ∧ Below w'.heap.size w' w'') :
    Calls Try.prog 39 #[.agg #[.int .i64 k, .string p, .string n, va, vr]] w fun e w' => ∃ u, e = .returned u ∧ LiesIn (fun b => w.heap.size ≤ b ∧ Thawed w' b) w' (d + 1) u (.mk k p n la lr) ∧ Below w.heap.size w w' := by
  obtain ⟨aa, na, ca, rfl⟩ := hva
  obtain ⟨ar, nr, cr, rfl⟩ := hvr
  have HK := Lib.hid (fun (W : World) (hb : Below ((w.alloc (.cells #[.int .i64 k, .string p, .string n, .slice aa na ca, .slice ar nr cr] 31)).alloc (.cells #[.int .i64 0, .string ⟨#[]⟩, .string ⟨#[]⟩, .slice none 0 0, .slice none 0 0] 31)).heap.size ((w.alloc (.cells #[.int .i64 k, .string p, .string n, .slice aa na ca, .slice ar nr cr] 31)).alloc (.cells #[.int .i64 0, .string ⟨#[]⟩, .string ⟨#[]⟩, .slice none 0 0, .slice none 0 0] 31)) W) => alloc_known2 hb)
  have HK := Lib.hid (fun (W : World) (hb : Below ((w.alloc (.cells #[.int .i64 k, .string p, .string n, .slice aa na ca, .slice ar nr cr] 31)).alloc (.cells #[.int .i64 0, .string ⟨#[]⟩, .string ⟨#[]⟩, .slice none 0 0, .slice none 0 0] 31)).heap.size ((w.alloc (.cells #[.int .i64 k, .string p, .string n, .slice aa na ca, .slice ar nr cr] 31)).alloc (.cells #[.int .i64 0, .string ⟨#[]⟩, .string ⟨#[]⟩, .slice none 0 0, .slice none 0 0] 31)) W) => alloc_known2 hb)
  have HK := Lib.hid (fun (W : World) (hb : Below ((w.alloc (.cells #[.int .i64 k, .string p, .string n, .slice aa na ca, .slice ar nr cr] 31)).alloc (.cells #[.int .i64 0, .string ⟨#[]⟩, .string ⟨#[]⟩, .slice none 0 0, .slice none 0 0] 31)).heap.size ((w.alloc (.cells #[.int .i64 k, .string p, .string n, .slice aa na ca, .slice ar nr cr] 31)).alloc (.cells #[.int .i64 0, .string ⟨#[]⟩, .string ⟨#[]⟩, .slice none 0 0, .slice none 0 0] 31)) W) => alloc_known2 hb)
  go_enter Try.func39, Try.ntmps39
  go_upto_region 1 with fail
  go_region_with (first | (go_at_call_of 44 (Value.slice aa na ca); refine (HA _ ?_).mono ?_; exact (alloc2_below w _ _).drew; rintro e w2 ⟨u1, rfl, hu1, hb⟩; obtain ⟨_, _, _, rfl⟩ := row_form hu1; have HU1 := Lib.hid hu1; have HB1 := Lib.hid hb; have HC : Hid (Below ((w.alloc (.cells #[.int .i64 k, .string p, .string n, .slice aa na ca, .slice ar nr cr] 31)).alloc (.cells #[.int .i64 0, .string ⟨#[]⟩, .string ⟨#[]⟩, .slice none 0 0, .slice none 0 0] 31)).heap.size ((w.alloc (.cells #[.int .i64 k, .string p, .string n, .slice aa na ca, .slice ar nr cr] 31)).alloc (.cells #[.int .i64 0, .string ⟨#[]⟩, .string ⟨#[]⟩, .slice none 0 0, .slice none 0 0] 31)) w2) := ⟨hb.os, hb.tape, hb.output, hb.size, hb.block⟩; have HC2 := HC; obtain ⟨hk, hk1, hbw⟩ := HK.out w2 HC.out; have c0 : w2.cell? ⟨w.heap.size, 0, none⟩ = some (.int .i64 k) := (by simp [World.cell?, hk]); have d0 : w2.cell? ⟨w.heap.size + 1, 0, none⟩ = some (.int .i64 0) := (by simp [World.cell?, hk1]); have c1 : w2.cell? ⟨w.heap.size, 1, none⟩ = some (.string p) := (by simp [World.cell?, hk]); have d1 : w2.cell? ⟨w.heap.size + 1, 1, none⟩ = some (.string ⟨#[]⟩) := (by simp [World.cell?, hk1]); have c2 : w2.cell? ⟨w.heap.size, 2, none⟩ = some (.string n) := (by simp [World.cell?, hk]); have d2 : w2.cell? ⟨w.heap.size + 1, 2, none⟩ = some (.string ⟨#[]⟩) := (by simp [World.cell?, hk1]); have c3 : w2.cell? ⟨w.heap.size, 3, none⟩ = some (.slice aa na ca) := (by simp [World.cell?, hk]); have d3 : w2.cell? ⟨w.heap.size + 1, 3, none⟩ = some (.slice none 0 0) := (by simp [World.cell?, hk1]); have c4 : w2.cell? ⟨w.heap.size, 4, none⟩ = some (.slice ar nr cr) := (by simp [World.cell?, hk]); have d4 : w2.cell? ⟨w.heap.size + 1, 4, none⟩ = some (.slice none 0 0) := (by simp [World.cell?, hk1]); have f0 : ∀ i, w2.frozen? ⟨w.heap.size, i, none⟩ = false := (fun i => by simp [World.frozen?, hk]); have f1 : ∀ i, w2.frozen? ⟨w.heap.size + 1, i, none⟩ = false := (fun i => by simp [World.frozen?, hk1]); have hs2 : w.heap.size + 1 < w2.heap.size := (Array.getElem?_eq_some_iff.1 hk1).1; have HBW := Lib.hid hbw; clear hk hk1 hbw hb; clear hu1) | (go_at_call_of 44 (Value.slice ar nr cr); refine (HR _ ?_).mono ?_; exact HBW.out; rintro e w3 ⟨u2, rfl, hu2, hb⟩; obtain ⟨_, _, _, rfl⟩ := row_form hu2; have HU2 := Lib.hid hu2; have HB2 := Lib.hid hb; have HC := Lib.hid (HC.out.trans (hb.mono HC.out.size)); obtain ⟨hk, hk1, hbw⟩ := HK.out w3 HC.out; have c0 : w3.cell? ⟨w.heap.size, 0, none⟩ = some (.int .i64 k) := (by simp [World.cell?, hk]); have d0 : w3.cell? ⟨w.heap.size + 1, 0, none⟩ = some (.int .i64 0) := (by simp [World.cell?, hk1]); have c1 : w3.cell? ⟨w.heap.size, 1, none⟩ = some (.string p) := (by simp [World.cell?, hk]); have d1 : w3.cell? ⟨w.heap.size + 1, 1, none⟩ = some (.string ⟨#[]⟩) := (by simp [World.cell?, hk1]); have c2 : w3.cell? ⟨w.heap.size, 2, none⟩ = some (.string n) := (by simp [World.cell?, hk]); have d2 : w3.cell? ⟨w.heap.size + 1, 2, none⟩ = some (.string ⟨#[]⟩) := (by simp [World.cell?, hk1]); have c3 : w3.cell? ⟨w.heap.size, 3, none⟩ = some (.slice aa na ca) := (by simp [World.cell?, hk]); have d3 : w3.cell? ⟨w.heap.size + 1, 3, none⟩ = some (.slice none 0 0) := (by simp [World.cell?, hk1]); have c4 : w3.cell? ⟨w.heap.size, 4, none⟩ = some (.slice ar nr cr) := (by simp [World.cell?, hk]); have d4 : w3.cell? ⟨w.heap.size + 1, 4, none⟩ = some (.slice none 0 0) := (by simp [World.cell?, hk1]); have f0 : ∀ i, w3.frozen? ⟨w.heap.size, i, none⟩ = false := (fun i => by simp [World.frozen?, hk]); have f1 : ∀ i, w3.frozen? ⟨w.heap.size + 1, i, none⟩ = false := (fun i => by simp [World.frozen?, hk1]); have hs2 : w.heap.size + 1 < w3.heap.size := (Array.getElem?_eq_some_iff.1 hk1).1; have HBW := Lib.hid hbw; clear hk hk1 hbw hb; clear hu2))
  all_goals
    go_wp2_with fail
    refine bodyPost_ret (v := .agg #[.int .i64 k, .string p, .string n, .slice _ _ _, .slice _ _ _]) (by simp [results, Try.results39, go_sem, d0, d1, d2, d3, d4]; first | rfl | exact ⟨⟨rfl, rfl, rfl⟩, rfl, rfl, rfl⟩) rfl ⟨_, rfl, ?_, ?_⟩
    · have hsame : ∀ (u1 u2 v0 v1 v2 v3 v4 : Value) (b : Nat), w.heap.size + 2 ≤ b → (((((((w3.setCell ⟨w.heap.size, 3, none⟩ u1).setCell ⟨w.heap.size, 4, none⟩ u2).setCell ⟨w.heap.size + 1, 0, none⟩ v0).setCell ⟨w.heap.size + 1, 1, none⟩ v1).setCell ⟨w.heap.size + 1, 2, none⟩ v2).setCell ⟨w.heap.size + 1, 3, none⟩ v3).setCell ⟨w.heap.size + 1, 4, none⟩ v4).heap[b]? = w3.heap[b]? := by
        intro u1 u2 v0 v1 v2 v3 v4 b hb
        rw [Below.heap_setCell _ _ _ _ (by simp; omega), Below.heap_setCell _ _ _ _ (by simp; omega), Below.heap_setCell _ _ _ _ (by simp; omega), Below.heap_setCell _ _ _ _ (by simp; omega), Below.heap_setCell _ _ _ _ (by simp; omega), Below.heap_setCell _ _ _ _ (by simp; omega), Below.heap_setCell _ _ _ _ (by simp; omega)]
      have e : ((w.alloc (.cells #[.int .i64 k, .string p, .string n, .slice aa na ca, .slice ar nr cr] 31)).alloc (.cells #[.int .i64 0, .string ⟨#[]⟩, .string ⟨#[]⟩, .slice none 0 0, .slice none 0 0] 31)).drew.heap.size = w.heap.size + 2 := by show ((w.alloc (.cells #[.int .i64 k, .string p, .string n, .slice aa na ca, .slice ar nr cr] 31)).alloc (.cells #[.int .i64 0, .string ⟨#[]⟩, .string ⟨#[]⟩, .slice none 0 0, .slice none 0 0] 31)).heap.size = _; simp
      have hs2 := HC2.out.size
      have e' : ((w.alloc (.cells #[.int .i64 k, .string p, .string n, .slice aa na ca, .slice ar nr cr] 31)).alloc (.cells #[.int .i64 0, .string ⟨#[]⟩, .string ⟨#[]⟩, .slice none 0 0, .slice none 0 0] 31)).heap.size = w.heap.size + 2 := by simp
      have k1 : ∀ (u1 u2 v0 v1 v2 v3 v4 : Value) (b : Nat), (((w.alloc (.cells #[.int .i64 k, .string p, .string n, .slice aa na ca, .slice ar nr cr] 31)).alloc (.cells #[.int .i64 0, .string ⟨#[]⟩, .string ⟨#[]⟩, .slice none 0 0, .slice none 0 0] 31)).drew.heap.size ≤ b ∧ Thawed w2 b) → b < w2.heap.size → (w.heap.size ≤ b ∧ Thawed (((((((w3.setCell ⟨w.heap.size, 3, none⟩ u1).setCell ⟨w.heap.size, 4, none⟩ u2).setCell ⟨w.heap.size + 1, 0, none⟩ v0).setCell ⟨w.heap.size + 1, 1, none⟩ v1).setCell ⟨w.heap.size + 1, 2, none⟩ v2).setCell ⟨w.heap.size + 1, 3, none⟩ v3).setCell ⟨w.heap.size + 1, 4, none⟩ v4) b) ∧ (((((((w3.setCell ⟨w.heap.size, 3, none⟩ u1).setCell ⟨w.heap.size, 4, none⟩ u2).setCell ⟨w.heap.size + 1, 0, none⟩ v0).setCell ⟨w.heap.size + 1, 1, none⟩ v1).setCell ⟨w.heap.size + 1, 2, none⟩ v2).setCell ⟨w.heap.size + 1, 3, none⟩ v3).setCell ⟨w.heap.size + 1, 4, none⟩ v4).heap[b]? = w2.heap[b]? := by
        intro u1 u2 v0 v1 v2 v3 v4 b hb h2
        obtain ⟨h1, h4⟩ := hb
        have e9 := (hsame u1 u2 v0 v1 v2 v3 v4 b (by omega)).trans (HB2.out.block b h2)
        exact ⟨⟨by omega, h4.same e9⟩, e9⟩
      have k2 : ∀ (u1 u2 v0 v1 v2 v3 v4 : Value) (b : Nat), (w2.heap.size ≤ b ∧ Thawed w3 b) → b < w3.heap.size → (w.heap.size ≤ b ∧ Thawed (((((((w3.setCell ⟨w.heap.size, 3, none⟩ u1).setCell ⟨w.heap.size, 4, none⟩ u2).setCell ⟨w.heap.size + 1, 0, none⟩ v0).setCell ⟨w.heap.size + 1, 1, none⟩ v1).setCell ⟨w.heap.size + 1, 2, none⟩ v2).setCell ⟨w.heap.size + 1, 3, none⟩ v3).setCell ⟨w.heap.size + 1, 4, none⟩ v4) b) ∧ (((((((w3.setCell ⟨w.heap.size, 3, none⟩ u1).setCell ⟨w.heap.size, 4, none⟩ u2).setCell ⟨w.heap.size + 1, 0, none⟩ v0).setCell ⟨w.heap.size + 1, 1, none⟩ v1).setCell ⟨w.heap.size + 1, 2, none⟩ v2).setCell ⟨w.heap.size + 1, 3, none⟩ v3).setCell ⟨w.heap.size + 1, 4, none⟩ v4).heap[b]? = w3.heap[b]? := by
        intro u1 u2 v0 v1 v2 v3 v4 b hb h2
        obtain ⟨h1, h4⟩ := hb
        have e9 := hsame u1 u2 v0 v1 v2 v3 v4 b (by omega)
        exact ⟨⟨by omega, h4.same e9⟩, e9⟩
      exact ⟨_, _, rfl, HU1.out.kept (fun v t h => h.kept (k1 _ _ _ _ _ _ _)) (k1 _ _ _ _ _ _ _), HU2.out.kept (fun v t h => h.kept (k2 _ _ _ _ _ _ _)) (k2 _ _ _ _ _ _ _)⟩
    · exact (((((((HBW.out.setCell (by simp) _).setCell (by simp) _).setCell (by simp) _).setCell (by simp) _).setCell (by simp) _).setCell (by simp) _).setCell (by simp) _)

theorem copiedf_any (d : Nat) : ∀ (w : World) (v : Value) (t : Ty), Lies w d v t → sizT t ≤ 1000000000 → Calls Try.prog 39 #[v] w fun e w' => ∃ u, e = .returned u ∧ LiesIn (fun b => w.heap.size ≤ b ∧ Thawed w' b) w' d u t ∧ Below w.heap.size w w' := by
  induction d with
  | zero => intro w v t h; exact h.elim
  | succ d ih =>
  intro w v t h hs
  obtain ⟨kd, p, nm, la, lr⟩ := t
  obtain ⟨va, vr, rfl, ha, hr⟩ := h
  rw [sizT] at hs
  have h1 := siz_len la
  have h2 := siz_len lr
  have f1 := ha.form
  have f2 := hr.form
  refine copiedf_x d w kd p nm va vr la lr (by obtain ⟨a, c, e, _⟩ := f1; exact ⟨_, _, _, e⟩) (by obtain ⟨a, c, e, _⟩ := f2; exact ⟨_, _, _, e⟩) (fun w' hb => each44f_any d w' va la (ha.below hb) (by omega) (fun i hi => ?_) ) (fun w' hb => each44f_any d w' vr lr (hr.below hb) (by omega) (fun i hi => ?_))
  · intro W v hv; exact ih W v _ hv (by have := siz_get la i hi; omega)
  · intro W v hv; exact ih W v _ hv (by have := siz_get lr i hi; omega)
end Go.Proofs.Ytcelpmojhjnggaa
