/- Types in the place of variables: Put. -/
import Derived.Test.YtcelpmojhjnggaaI10
namespace Go.Proofs.Ytcelpmojhjnggaa
open Go Go.RowKit Go.Sort Go.Deep KindsP
set_option maxHeartbeats 2000000
set_option maxRecDepth 100000

theorem each44_put (q4 q5 : Nat) (d D : Nat) (g : Ty → Ty) (w : World) (v : Value) (l : List Ty) (h : RowOf (Lies w d) w v l) (hll : l.length ≤ 1000000000)
    (ih : ∀ (i : Nat) (hi : i < l.length) (W : World) (v : Value), Below w.heap.size w W → Lies W d v l[i] → Calls Try.prog 43 #[v, .pointer (some ⟨q4, 0, none⟩), .pointer (some ⟨q5, 0, none⟩)] W fun e w' => ∃ u, e = .returned u ∧ LiesIn (fun b => W.heap.size ≤ b) w' D u (g l[i]) ∧ Below W.heap.size W w') :
    Calls Try.prog 44 #[v, .func (.func 43) #[] #[.pointer (some ⟨q4, 0, none⟩), .pointer (some ⟨q5, 0, none⟩)]] w fun e w' => ∃ u, e = .returned u ∧ RowIn (fun b => w.heap.size ≤ b) (LiesIn (fun b => w.heap.size ≤ b) w' D) w' u (l.map g) ∧ Below w.heap.size w w' := by
  obtain ⟨a, c, rfl, hc, hcm, hf⟩ := h.form
  have HA := Lib.hid h
  obtain ⟨i9, hi9, hz90, hz91, hz92⟩ := info_parts Try.info31'
  clear h
  go_enter Try.func44, Try.ntmps44
  go_wp2_with fail
  go_loopw [5, 10] (fun ov iv wr => ∃ (k : Nat) (vs : List Value), k ≤ l.length ∧ iv = .int .i64 k ∧ wr.ownsRow w.heap.size 31 5 ov k (vs.flatMap cells5) ∧ Vals (LiesIn (fun b => w.heap.size ≤ b ∧ b < wr.heap.size ∧ ov.ownBlock ≠ some b) wr D) vs ((l.take k).map g) ∧ Below w.heap.size w wr) (fun _ iv _ => l.length - (intOf iv).toNat)
  case atStart => exact ⟨0, [], by omega, rfl, World.ownsRow_nil _ _ _ _, ⟨by simp, by simp⟩, Below.refl _ _⟩
  case round =>
    obtain ⟨k, vs, hk, rfl, hown, hvs, hb⟩ := hrel
    obtain ⟨ao, cap, rfl⟩ := own_shape hown
    have HB := Lib.hid hb
    have HO := Lib.hid hown
    have HV := Lib.hid hvs
    have hsz := hb.size
    clear hb hown hvs
    by_cases hlt : k < l.length
    · obtain ⟨b, o, rfl⟩ := hf (by omega)
      obtain ⟨x0, x1, x2, x3, x4, hl, hf⟩ := HA.out.get k l[k] (by simp)
      obtain ⟨f0, f1, f2, f3, f4⟩ := hf.below HB.out
      have HT := Lib.hid (show (l.take (k + 1)).map g = (l.take k).map g ++ [g l[k]] by rw [List.take_add_one, List.getElem?_eq_getElem hlt, List.map_append]; rfl)
      have HL := Lib.hid (fun w' (hb : Below wr.heap.size wr w') => Lies.below (HB.out.trans (hb.mono hsz)) _ _ _ hl)
      obtain ⟨q0, q1, q2, q3, q4, q5, q6, q7, q8, rfl, rfl, rfl, rfl, rfl⟩ := lies_form hl
      clear hl hf
      go_wp2_with (first | (go_at_call 43; refine (ih k hlt _ _ (HB.out.alloc hsz _) (HL.out _ ((Below.refl _ _).alloc (Nat.le_refl _) _))).mono ?_; rintro e w2 ⟨u, rfl, hlu, hb2⟩; obtain ⟨-, hb3⟩ := alloc_known hb2; obtain ⟨c0, c1, c2, c3, c4, rfl⟩ := lies_five (LiesIn.lies _ _ _ hlu); obtain ⟨t0, t1, t2, t3, t4, t5, t6, t7, t8, rfl, rfl, rfl, rfl, rfl⟩ := lies_form (LiesIn.lies _ _ _ hlu); have HU := Lib.hid hlu; have HB2 := Lib.hid hb3; have hsz2 := hb3.size; clear hb2 hb3 hlu) | (at_builtin; refine wpList_append_lies _ rfl (.tmp 14) (.tmp 18) 23 rfl w.heap.size 31 i9 _ 5 88 Try.underlying23 hi9 hz90 hz91 hz92 rfl (by decide) _ k _ rfl ((own_below HO.out HB2.out).alloc _) ⟨w2.heap.size, 0, none⟩ 1 1 [.int .i64 t0, .string t1, .string t2, .slice t3 t4 t5, .slice t6 t7 t8] rfl rfl (World.news_of_block (cs := #[.int .i64 t0, .string t1, .string t2, .slice t3 t4 t5, .slice t6 t7 t8]) (t := 31) (fr := (0, 0)) (heap_alloc_new w2 _)) (by simp [Value.oneCell']) (by omega) (by unfold maxLen; omega) (by omega) (by simp; omega) (w2.heap.size + 1) (by simp) ?_; intro gg cp w3 hown3 hgrow hat hlt3; have HG : Hid ((w2.alloc (.cells #[.int .i64 t0, .string t1, .string t2, .slice t3 t4 t5, .slice t6 t7 t8] 31)).grownBy w3 (Value.slice ao k cap).ownBlock) := hgrow; have HW3 := Lib.hid hown3; have HAT : Hid ((Value.slice ao k cap).ownBlock = some gg ∨ gg = w2.heap.size + 1) := hat; clear hown3 hgrow hat))
      have hbw : Below w.heap.size w w3 := ((HB.out.trans (HB2.out.mono hsz)).alloc (by omega) _).grown HG.out (by simp; omega) (fun g hg => (HO.out.lt g hg).1)
      have hgo := fun g hg => HO.out.lt g hg
      have hat := HAT.out
      have hold : ∀ b, (w.heap.size ≤ b ∧ b < wr.heap.size ∧ (Value.slice ao k cap).ownBlock ≠ some b) → b < wr.heap.size → (w.heap.size ≤ b ∧ b < w3.heap.size ∧ (Value.slice (some ⟨gg, 0, none⟩) (k + 1) cp).ownBlock ≠ some b) ∧ w3.heap[b]? = wr.heap[b]? := by
        intro b hb hlt
        obtain ⟨h1, h2, h3⟩ := hb
        have e1 : w2.heap[b]? = wr.heap[b]? := HB2.out.block b hlt
        have e2 := heap_alloc_old w2 (.cells #[.int .i64 t0, .string t1, .string t2, .slice t3 t4 t5, .slice t6 t7 t8] 31) (r := b) (by omega)
        have e3 := HG.out.block b (by simp; omega) (Ne.symm h3)
        have hs3 := HG.out.size
        simp at hs3
        refine ⟨⟨h1, by omega, ?_⟩, e3.trans (e2.trans e1)⟩
        rcases hat with h | h
        · intro e; apply h3; rw [h]; exact e
        · intro e; have : gg = b := by simpa [Value.ownBlock] using e
          omega
      have hnew : ∀ b, (wr.alloc (.cells #[.int .i64 q0, .string q1, .string q2, .slice q3 q4 q5, .slice q6 q7 q8] 31)).heap.size ≤ b → b < w2.heap.size → (w.heap.size ≤ b ∧ b < w3.heap.size ∧ (Value.slice (some ⟨gg, 0, none⟩) (k + 1) cp).ownBlock ≠ some b) ∧ w3.heap[b]? = w2.heap[b]? := by
        intro b hb hlt
        simp at hb
        have hne : ∀ g, (Value.slice ao k cap).ownBlock = some g → g ≠ b := fun g hg => by have := (hgo g hg).2; omega
        have e2 := heap_alloc_old w2 (.cells #[.int .i64 t0, .string t1, .string t2, .slice t3 t4 t5, .slice t6 t7 t8] 31) (r := b) hlt
        have e3 := HG.out.block b (by simp; omega) (fun e => hne b e.symm rfl)
        have hs3 := HG.out.size
        simp at hs3
        refine ⟨⟨by omega, by omega, ?_⟩, e3.trans e2⟩
        intro e
        have : gg = b := by simpa [Value.ownBlock] using e
        rcases hat with h | h
        · exact hne gg h this
        · omega
      refine ⟨⟨k + 1, vs ++ [.agg #[.int .i64 t0, .string t1, .string t2, .slice t3 t4 t5, .slice t6 t7 t8]], by omega, by go_num, ?_, ?_, hbw⟩, by simp [intOf]; omega⟩
      · rw [List.flatMap_append]
        exact HW3.out
      · rw [HT.out]
        exact (HV.out.mono (fun _ _ h => h.kept hold)).snoc (HU.out.kept hnew)
    · have hkl : k = l.length := by omega
      go_wp2_with fail
      go_ret
      refine ⟨_, rfl, ?_, HB.out⟩
      subst hkl
      have := HV.out
      rw [List.take_length] at this
      exact RowIn.of_own (ts := l.map g) (by rw [List.length_map]; exact HO.out) (this.mono (fun _ _ h => h.kept (fun b h1 _ => ⟨h1.1, rfl⟩))) (fun _ h => h)

/-- the type in the place of a variable -/
def found (ns : List ByteArray) (ts : List Ty) (n : ByteArray) : Option Ty := if 0 ≤ Lib.idxOfS ns n then ts[(Lib.idxOfS ns n).toNat]? else none
mutual
def putT (ns : List ByteArray) (ts : List Ty) : Ty → Ty
  | .mk k p n la lr => match (if (k == 9) = true then found ns ts n else none) with
    | some t => t
    | none => .mk k p n (putL ns ts la) (putL ns ts lr)
def putL (ns : List ByteArray) (ts : List Ty) : List Ty → List Ty
  | [] => []
  | x :: xs => putT ns ts x :: putL ns ts xs
end
theorem putL_map (ns : List ByteArray) (ts : List Ty) (l : List Ty) : putL ns ts l = l.map (putT ns ts) := by
  induction l with
  | nil => rw [putL]; rfl
  | cons x xs ih => rw [putL, ih]; rfl
theorem index_any (w : World) (v : Value) (zs : List ByteArray) (h : NamesIs w v zs) (x : ByteArray) : Calls Try.prog 42 #[v, .string x] w fun e w' => e = .returned (.int .i64 (Lib.idxOfS zs x)) ∧ w' = w := by
  obtain ⟨⟨a, c, rfl, h2, h3⟩, _⟩ := h
  rcases h3 with rfl | ⟨b, o, rfl, h6⟩
  · exact Try.slices_Index_string_empty a c x w
  · have := Try.slices_Index_string b o zs.length c zs x w (Nat.le_refl _) h2 h6
    rwa [List.take_length] at this
def PutAt (d : Nat) : Prop := ∀ (w : World) (dd : Nat) (v vn vt : Value) (t : Ty) (ns : List ByteArray) (ts : List Ty), Lies w d v t → NamesIs w vn ns → RowOf (Lies w dd) w vt ts → sizT t ≤ 1000000000 → sizL ts ≤ 1000000000 →
    Calls Try.prog 18 #[v, vn, vt] w fun e w' => ∃ u, e = .returned u ∧ LiesIn (fun b => w.heap.size ≤ b) w' (d + dd) u (putT ns ts t) ∧ Below w.heap.size w w'
theorem keep5 (w : World) (B : Nat) (v0 v1 v2 v3 v4 : Value) (b : Nat) (h : b ≠ B) : (((((w.setCell ⟨B, 0, none⟩ v0).setCell ⟨B, 1, none⟩ v1).setCell ⟨B, 2, none⟩ v2).setCell ⟨B, 3, none⟩ v3).setCell ⟨B, 4, none⟩ v4).heap[b]? = w.heap[b]? := by
  rw [Below.heap_setCell _ _ _ _ h, Below.heap_setCell _ _ _ _ h, Below.heap_setCell _ _ _ _ h, Below.heap_setCell _ _ _ _ h, Below.heap_setCell _ _ _ _ h]
/-- the closure -/
theorem clo_any (d : Nat) (ih : PutAt d) (W : World) (q4 q5 : Nat) (dd : Nat) (v vn vt : Value) (t : Ty) (ns : List ByteArray) (ts : List Ty) (hl : Lies W d v t) (hn : NamesIs W vn ns) (ht : RowOf (Lies W dd) W vt ts) (hs : sizT t ≤ 1000000000) (hss : sizL ts ≤ 1000000000)
    (h4 : W.heap[q4]? = some (.cells #[vn] 22 (0, 0))) (h5 : W.heap[q5]? = some (.cells #[vt] 23 (0, 0))) :
    Calls Try.prog 43 #[v, .pointer (some ⟨q4, 0, none⟩), .pointer (some ⟨q5, 0, none⟩)] W fun e w' => ∃ u, e = .returned u ∧ LiesIn (fun b => W.heap.size ≤ b) w' (d + dd) u (putT ns ts t) ∧ Below W.heap.size W w' := by
  obtain ⟨x0, x1, x2, x3, x4, rfl⟩ := lies_five hl
  obtain ⟨_, _, _, _, _, _, _, _, _, rfl, rfl, rfl, rfl, rfl⟩ := lies_form hl
  have c4 : W.cell? ⟨q4, 0, none⟩ = some vn := by simp [World.cell?, h4]
  have c5 : W.cell? ⟨q5, 0, none⟩ = some vt := by simp [World.cell?, h5]
  have l4 : q4 < W.heap.size := (Array.getElem?_eq_some_iff.1 h4).1
  have l5 : q5 < W.heap.size := (Array.getElem?_eq_some_iff.1 h5).1
  have HI := Lib.hid (fun W' (hb : Below W.heap.size W W') => ih W' dd _ vn vt t ns ts (Lies.below hb _ _ _ hl) (hn.keep (below_keep hb)) (ht.below hb) hs hss)
  clear ih hl hn ht h4 h5
  go_enter Try.func43, Try.ntmps43
  go_wp2_with (first | (go_at_call 18; refine (HI.out _ (alloc2_below _ _ _)).mono ?_; rintro e w2 ⟨u, rfl, hu, hb⟩; refine Hid.out ?_))
  refine Lib.hid ?_
  obtain ⟨hk, hk1, hbw⟩ := alloc_known2 hb
  obtain ⟨c0, c1, c2, c3, c4', rfl⟩ := lies_five (LiesIn.lies _ _ _ hu)
  obtain ⟨t0, t1, t2, t3, t4, t5, t6, t7, t8, rfl, rfl, rfl, rfl, rfl⟩ := lies_form (LiesIn.lies _ _ _ hu)
  have d0 : w2.cell? ⟨W.heap.size + 1, 0, none⟩ = some (.int .i64 0) := by simp [World.cell?, hk1]
  have d1 : w2.cell? ⟨W.heap.size + 1, 1, none⟩ = some (.string ⟨#[]⟩) := by simp [World.cell?, hk1]
  have d2 : w2.cell? ⟨W.heap.size + 1, 2, none⟩ = some (.string ⟨#[]⟩) := by simp [World.cell?, hk1]
  have d3 : w2.cell? ⟨W.heap.size + 1, 3, none⟩ = some (.slice none 0 0) := by simp [World.cell?, hk1]
  have d4 : w2.cell? ⟨W.heap.size + 1, 4, none⟩ = some (.slice none 0 0) := by simp [World.cell?, hk1]
  have f1 : ∀ i, w2.frozen? ⟨W.heap.size + 1, i, none⟩ = false := fun i => by simp [World.frozen?, hk1]
  have HU := Lib.hid hu
  have HBW := Lib.hid hbw
  have hs2 := hb.size
  clear hk hk1 hbw hu hb
  go_wp2_with fail
  refine bodyPost_ret (v := .agg #[.int .i64 t0, .string t1, .string t2, .slice t3 t4 t5, .slice t6 t7 t8]) (by simp [results, Try.results43, go_sem, d0, d1, d2, d3, d4]) rfl ⟨_, rfl, ?_, ?_⟩
  · refine HU.out.kept (fun b h1 h2 => ⟨?_, keep5 _ _ _ _ _ _ _ b ?_⟩)
    · simp at h1; omega
    · simp at h1; omega
  · exact ((((HBW.out.setCell (by simp) _).setCell (by simp) _).setCell (by simp) _).setCell (by simp) _).setCell (by simp) _

theorem alloc_known4 {w w2 : World} {cs ds es fs : Array Value} {t u x y : TypeId} {fr gr hr ir : Nat × Nat} (hb : Below ((((w.alloc (.cells cs t fr)).alloc (.cells ds u gr)).alloc (.cells es x hr)).alloc (.cells fs y ir)).heap.size ((((w.alloc (.cells cs t fr)).alloc (.cells ds u gr)).alloc (.cells es x hr)).alloc (.cells fs y ir)) w2) :
    w2.heap[w.heap.size]? = some (.cells cs t fr) ∧ w2.heap[w.heap.size + 1]? = some (.cells ds u gr) ∧ w2.heap[w.heap.size + 1 + 1]? = some (.cells es x hr) ∧ w2.heap[w.heap.size + 1 + 1 + 1]? = some (.cells fs y ir) ∧ Below w.heap.size w w2 := by
  obtain ⟨h3, h2, hb2⟩ := alloc_known2 hb
  obtain ⟨h1, h0, hb1⟩ := alloc_known2 hb2
  have e2 : ((w.alloc (.cells cs t fr)).alloc (.cells ds u gr)).heap.size = w.heap.size + 1 + 1 := by simp
  rw [e2] at h3 h2
  exact ⟨h1, h0, h3, h2, hb1⟩
theorem found_small (ns : List ByteArray) (ts : List Ty) (n : ByteArray) (t : Ty) (h : found ns ts n = some t) : 0 ≤ Lib.idxOfS ns n ∧ ∃ i : Nat, Lib.idxOfS ns n = i ∧ ∃ hi : i < ts.length, ts[i] = t := by
  unfold found at h
  split at h
  · next h0 =>
    obtain ⟨i, hi⟩ := Int.eq_ofNat_of_zero_le h0
    rw [hi] at h
    simp at h
    obtain ⟨h1, h2⟩ := List.getElem?_eq_some_iff.1 h
    exact ⟨h0, i, hi, h1, h2⟩
  · cases h
theorem found_none (ns : List ByteArray) (ts : List Ty) (n : ByteArray) (h : found ns ts n = none) : Lib.idxOfS ns n < 0 ∨ (0 ≤ Lib.idxOfS ns n ∧ (ts.length : Int) ≤ Lib.idxOfS ns n) := by
  unfold found at h
  split at h
  · next h0 =>
    obtain ⟨i, hi⟩ := Int.eq_ofNat_of_zero_le h0
    rw [hi] at h
    simp at h
    right
    omega
  · next h0 => left; omega
abbrev W4 (w : World) (k : Int) (p n : ByteArray) (va vr vn vt : Value) : World := (((w.alloc (.cells #[.int .i64 k, .string p, .string n, va, vr] 31)).alloc (.cells #[vn] 22)).alloc (.cells #[vt] 23)).alloc (.cells #[.int .i64 0, .string ⟨#[]⟩, .string ⟨#[]⟩, .slice none 0 0, .slice none 0 0] 31)
theorem W4_below (w : World) (k : Int) (p n : ByteArray) (va vr vn vt : Value) : Below w.heap.size w (W4 w k p n va vr vn vt) := ((((Below.refl _ _).alloc (Nat.le_refl _) _).alloc (by simp) _).alloc (by simp <;> omega) _).alloc (by simp <;> omega) _
end Go.Proofs.Ytcelpmojhjnggaa
