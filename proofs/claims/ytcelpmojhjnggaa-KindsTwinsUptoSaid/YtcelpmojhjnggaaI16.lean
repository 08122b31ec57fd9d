/- The document's Put and Copy, for every type. -/
import Derived.Test.YtcelpmojhjnggaaI15
import Derived.Laws.MakeOwn
namespace Go.Proofs.Ytcelpmojhjnggaa
open Go Go.RowKit Go.Sort Go.Deep KindsP
set_option maxHeartbeats 2000000
set_option maxRecDepth 100000

mutual
theorem putT_nil : ∀ t : Ty, putT [] [] t = t
  | .mk k p n la lr => by
    have hf : (if (k == 9) = true then found [] [] n else none) = none := by
      by_cases h : (k == 9) = true
      · rw [if_pos h]
        cases hx : found [] [] n with
        | none => rfl
        | some t => obtain ⟨_, i, _, hlt, _⟩ := found_small _ _ _ _ hx; simp at hlt
      · rw [if_neg h]
    rw [putT, hf]
    show Ty.mk k p n (putL [] [] la) (putL [] [] lr) = _
    rw [putL_nil la, putL_nil lr]
theorem putL_nil : ∀ l : List Ty, putL [] [] l = l
  | [] => by rw [putL]
  | t :: l => by rw [putL, putT_nil t, putL_nil l]
end
def Post7 (W : World) (D : Nat) (t : Ty) (e : Ending) (w' : World) : Prop := ∃ u, e = .returned u ∧ LiesIn (fun b => W.heap.size ≤ b) w' D u t ∧ Below W.heap.size W w'
theorem put7_hit (dd : Nat) (w : World) (p n : ByteArray) (aa ar an : Option Addr) (na ca nr cr nn cn ct i bt ot : Nat) (ts : List Ty) (hi : i < ts.length) (hrow : RowOf (Lies w dd) w (.slice (some ⟨bt, ot, none⟩) ts.length ct) ts)
    (hI : ∀ w', Below w.heap.size w w' → Calls Try.prog 41 #[.slice an nn cn, .string n] w' fun e w'' => e = .returned (.int .i64 i) ∧ w'' = w')
    (hC : ∀ (W : World) (v : Value), Lies W dd v ts[i] → Calls Try.prog 17 #[v] W (Post7 W dd ts[i])) :
    Calls Try.prog 20 #[.agg #[.int .i64 9, .string p, .string n, .slice aa na ca, .slice ar nr cr], .slice an nn cn, .slice (some ⟨bt, ot, none⟩) ts.length ct] w (Post7 w dd ts[i]) := by
  have hbw := alloc2_below w (.cells #[.int .i64 9, .string p, .string n, .slice aa na ca, .slice ar nr cr] 31) (.cells #[.int .i64 0, .string ⟨#[]⟩, .string ⟨#[]⟩, .slice none 0 0, .slice none 0 0] 31)
  have HI := Lib.hid (hI _ hbw)
  obtain ⟨x0, x1, x2, x3, x4, hl, hf⟩ := hrow.get i ts[i] (by simp)
  obtain ⟨f0, f1, f2, f3, f4⟩ := hf.below hbw
  have HL := Lib.hid (hC _ _ (Lies.below hbw _ _ _ hl))
  have HK := Lib.hid (fun (W : World) (hb : Below (W2 w 9 p n (.slice aa na ca) (.slice ar nr cr)).heap.size (W2 w 9 p n (.slice aa na ca) (.slice ar nr cr)) W) => alloc_known2 hb)
  obtain ⟨_, _, hv, hcc, hcm, _⟩ := hrow.form
  have hll := Nat.le_trans hcc hcm
  unfold maxLen at hll
  clear hv hI hl hf hrow hcc hcm hbw hC
  go_enter Try.func20, Try.ntmps20
  go_wp2_with (first | (go_at_call 41; refine HI.out.mono ?_; rintro e w5 ⟨rfl, hw5⟩; obtain rfl := hw5.symm) | (go_at_call 17; refine HL.out.mono ?_; rintro e w2 ⟨u, rfl, hu, hb⟩; refine Hid.out ?_))
  refine Lib.hid ?_
  obtain ⟨hk0, hk1, hbw⟩ := HK.out w2 hb
  obtain ⟨c0, c1, c2, c3, c4', rfl⟩ := lies_five (LiesIn.lies _ _ _ hu)
  obtain ⟨t0, t1, t2, t3, t4, t5, t6, t7, t8, rfl, rfl, rfl, rfl, rfl⟩ := lies_form (LiesIn.lies _ _ _ hu)
  have d0 : w2.cell? ⟨w.heap.size + 1, 0, none⟩ = some (.int .i64 0) := by simp [World.cell?, hk1]
  have d1 : w2.cell? ⟨w.heap.size + 1, 1, none⟩ = some (.string ⟨#[]⟩) := by simp [World.cell?, hk1]
  have d2 : w2.cell? ⟨w.heap.size + 1, 2, none⟩ = some (.string ⟨#[]⟩) := by simp [World.cell?, hk1]
  have d3 : w2.cell? ⟨w.heap.size + 1, 3, none⟩ = some (.slice none 0 0) := by simp [World.cell?, hk1]
  have d4 : w2.cell? ⟨w.heap.size + 1, 4, none⟩ = some (.slice none 0 0) := by simp [World.cell?, hk1]
  have fz : ∀ i, w2.frozen? ⟨w.heap.size + 1, i, none⟩ = false := fun i => by simp [World.frozen?, hk1]
  have HU := Lib.hid hu
  have HBW := Lib.hid hbw
  clear hk0 hk1 hbw hu hb f0 f1 f2 f3 f4
  go_wp2_with fail
  refine bodyPost_ret (v := .agg #[.int .i64 t0, .string t1, .string t2, .slice t3 t4 t5, .slice t6 t7 t8]) (by simp [results, Try.results20, go_sem, d0, d1, d2, d3, d4]) rfl ⟨_, rfl, ?_, ?_⟩
  · refine HU.out.kept (fun b h1 h2 => ⟨?_, keep5 _ _ _ _ _ _ _ b ?_⟩)
    · simp at h1; omega
    · simp at h1; omega
  · exact ((((HBW.out.setCell (by simp <;> omega) _).setCell (by simp <;> omega) _).setCell (by simp <;> omega) _).setCell (by simp <;> omega) _).setCell (by simp <;> omega) _
theorem put7_step (d : Nat) (w : World) (dd : Nat) (v vn vt : Value) (t : Ty) (ns : List ByteArray) (ts : List Ty) (hl : Lies w d v t) (hn : NamesIs w vn ns) (ht : RowOf (Lies w dd) w vt ts) (hs : sizT t ≤ 1000000000)
    (hC : ∀ (i : Nat) (hi : i < ts.length) (W : World) (v : Value), Lies W dd v ts[i] → Calls Try.prog 17 #[v] W (Post7 W dd ts[i]))
    (ih : ∀ e, e < d → ∀ (W : World) (v : Value) (t : Ty), Below w.heap.size w W → Lies W e v t → sizT t ≤ 1000000000 → Calls Try.prog 20 #[v, vn, vt] W (Post7 W (e + dd) (putT ns ts t))) :
    Calls Try.prog 20 #[v, vn, vt] w (Post7 w (d + dd) (putT ns ts t)) := by
  obtain ⟨x0, x1, x2, x3, x4, rfl⟩ := lies_five hl
  obtain ⟨e, k, p, n, a1, m1, q1, a2, m2, q2, la, lr, rfl, rfl, rfl, rfl, rfl, rfl, rfl, hra, hrr⟩ := lies_at hl
  rw [sizT] at hs
  have hla := siz_len la
  have hlr := siz_len lr
  obtain ⟨⟨an, cn, rfl, hn1, hn2⟩, hn3⟩ := id hn
  obtain ⟨at0, ct, rfl, hct, hctm, htf⟩ := ht.form
  have hidx : ∀ w', Below w.heap.size w w' → Calls Try.prog 41 #[.slice an ns.length cn, .string n] w' fun e w'' => e = .returned (.int .i64 (Lib.idxOfS ns n)) ∧ w'' = w' := fun w' hb => place_any w' _ ns (hn.keep (below_keep hb)) n
  cases hf : (if (k == 9) = true then found ns ts n else none) with
  | some t0 =>
    have hp : putT ns ts (.mk k p n la lr) = t0 := by rw [putT, hf]
    rw [hp]
    have hk9 : (k == 9) = true := by
      cases h : (k == 9)
      · rw [h] at hf; simp at hf
      · rfl
    rw [if_pos hk9] at hf
    obtain ⟨h0, i, hi, hlt, rfl⟩ := found_small ns ts n t0 hf
    obtain rfl : k = 9 := eq_of_beq hk9
    obtain ⟨bt, ot, rfl⟩ := htf (by omega)
    rw [hi] at hidx
    refine (put7_hit dd w p n a1 a2 an m1 q1 m2 q2 ns.length cn ct i bt ot ts hlt ht hidx (hC i hlt)).mono ?_
    rintro r w' ⟨u, rfl, hu, hb⟩
    exact ⟨u, rfl, hu.le (by omega), hb⟩
  | none =>
    have hp : putT ns ts (.mk k p n la lr) = .mk k p n (la.map (putT ns ts)) (lr.map (putT ns ts)) := by rw [putT, hf]; show Ty.mk _ _ _ _ _ = _; rw [putL_map, putL_map]
    rw [hp]
    obtain ⟨_, _, hx1, _⟩ := hra.form
    simp only [Value.slice.injEq] at hx1
    obtain ⟨rfl, rfl, rfl⟩ := hx1
    obtain ⟨_, _, hx2, _⟩ := hrr.form
    simp only [Value.slice.injEq] at hx2
    obtain ⟨rfl, rfl, rfl⟩ := hx2
    have hx := put7_x e (e + dd) w k p n a1 a2 an at0 q1 q2 ns.length cn ts.length ct la lr (putT ns ts) (Lib.idxOfS ns n) hra hrr (by omega) (by omega) (fun h9 => by rw [if_pos h9] at hf; exact found_none ns ts n hf) hidx
      (fun i hi W v hb hlv => ih e (by omega) W v la[i] hb hlv (by have := siz_get la i hi; omega)) (fun i hi W v hb hlv => ih e (by omega) W v lr[i] hb hlv (by have := siz_get lr i hi; omega))
    refine hx.mono ?_
    rintro r w' ⟨u, rfl, hu, hb⟩
    exact ⟨u, rfl, hu.le (by omega), hb⟩
theorem names_nil (w : World) : NamesIs w (.slice none 0 0) [] := ⟨⟨none, 0, rfl, by simp, .inl rfl⟩, by simp⟩
theorem tys_nil (w : World) (d : Nat) : RowOf (Lies w d) w (.slice none 0 0) [] := ⟨none, 0, rfl, by simp, by unfold maxLen; omega, .inl rfl⟩
theorem put7_plain (d : Nat) : ∀ (w : World) (v : Value) (t : Ty), Lies w d v t → sizT t ≤ 1000000000 → Calls Try.prog 20 #[v, .slice none 0 0, .slice none 0 0] w (Post7 w d t) := by
  induction d using Nat.strongRecOn with
  | ind d ih =>
  intro w v t hl hs
  have := put7_step d w 0 v _ _ t [] [] hl (names_nil w) (tys_nil w 0) hs (fun i hi => by simp at hi) (fun e he W v t _ hl hs => by rw [putT_nil]; exact ih e he W v t hl hs)
  rwa [putT_nil] at this
theorem copy7_x (d : Nat) (w : World) (k : Int) (p n : ByteArray) (aa ar : Option Addr) (na ca nr cr : Nat) (t : Ty) (hl : Lies w d (.agg #[.int .i64 k, .string p, .string n, .slice aa na ca, .slice ar nr cr]) t) (hs : sizT t ≤ 1000000000) :
    Calls Try.prog 17 #[.agg #[.int .i64 k, .string p, .string n, .slice aa na ca, .slice ar nr cr]] w (Post7 w d t) := by
  have hbw := alloc2_below w (.cells #[.int .i64 k, .string p, .string n, .slice aa na ca, .slice ar nr cr] 31) (.cells #[.int .i64 0, .string ⟨#[]⟩, .string ⟨#[]⟩, .slice none 0 0, .slice none 0 0] 31)
  have HL := Lib.hid (put7_plain d _ _ t (Lies.below hbw _ _ _ hl) hs)
  have HK := Lib.hid (fun (W : World) (hb : Below (W2 w k p n (.slice aa na ca) (.slice ar nr cr)).heap.size (W2 w k p n (.slice aa na ca) (.slice ar nr cr)) W) => alloc_known2 hb)
  clear hl hbw
  go_enter Try.func17, Try.ntmps17
  go_wp2_with (first | (go_at_call 20; refine HL.out.mono ?_; rintro e w2 ⟨u, rfl, hu, hb⟩; refine Hid.out ?_))
  refine Lib.hid ?_
  obtain ⟨hk0, hk1, hbw⟩ := HK.out w2 hb
  obtain ⟨c0, c1, c2, c3, c4', rfl⟩ := lies_five (LiesIn.lies _ _ _ hu)
  obtain ⟨t0, t1, t2, t3, t4, t5, t6, t7, t8, rfl, rfl, rfl, rfl, rfl⟩ := lies_form (LiesIn.lies _ _ _ hu)
  have d0 : w2.cell? ⟨w.heap.size + 1, 0, none⟩ = some (.int .i64 0) := by simp [World.cell?, hk1]
  have d1 : w2.cell? ⟨w.heap.size + 1, 1, none⟩ = some (.string ⟨#[]⟩) := by simp [World.cell?, hk1]
  have d2 : w2.cell? ⟨w.heap.size + 1, 2, none⟩ = some (.string ⟨#[]⟩) := by simp [World.cell?, hk1]
  have d3 : w2.cell? ⟨w.heap.size + 1, 3, none⟩ = some (.slice none 0 0) := by simp [World.cell?, hk1]
  have d4 : w2.cell? ⟨w.heap.size + 1, 4, none⟩ = some (.slice none 0 0) := by simp [World.cell?, hk1]
  have fz : ∀ i, w2.frozen? ⟨w.heap.size + 1, i, none⟩ = false := fun i => by simp [World.frozen?, hk1]
  have HU := Lib.hid hu
  have HBW := Lib.hid hbw
  clear hk0 hk1 hbw hu hb
  go_wp2_with fail
  refine bodyPost_ret (v := .agg #[.int .i64 t0, .string t1, .string t2, .slice t3 t4 t5, .slice t6 t7 t8]) (by simp [results, Try.results17, go_sem, d0, d1, d2, d3, d4]) rfl ⟨_, rfl, ?_, ?_⟩
  · refine HU.out.kept (fun b h1 h2 => ⟨?_, keep5 _ _ _ _ _ _ _ b ?_⟩)
    · simp at h1; omega
    · simp at h1; omega
  · exact ((((HBW.out.setCell (by simp <;> omega) _).setCell (by simp <;> omega) _).setCell (by simp <;> omega) _).setCell (by simp <;> omega) _).setCell (by simp <;> omega) _
theorem copy7_any (d : Nat) (w : World) (v : Value) (t : Ty) (hl : Lies w d v t) (hs : sizT t ≤ 1000000000) : Calls Try.prog 17 #[v] w (Post7 w d t) := by
  obtain ⟨x0, x1, x2, x3, x4, rfl⟩ := lies_five hl
  obtain ⟨_, _, _, _, _, _, _, _, _, rfl, rfl, rfl, rfl, rfl⟩ := lies_form hl
  exact copy7_x d w _ _ _ _ _ _ _ _ _ t hl hs
theorem put7_any (d : Nat) : ∀ (w : World) (dd : Nat) (v vn vt : Value) (t : Ty) (ns : List ByteArray) (ts : List Ty), Lies w d v t → NamesIs w vn ns → RowOf (Lies w dd) w vt ts → sizT t ≤ 1000000000 → sizL ts ≤ 1000000000 →
    Calls Try.prog 20 #[v, vn, vt] w (Post7 w (d + dd) (putT ns ts t)) := by
  induction d using Nat.strongRecOn with
  | ind d ih =>
  intro w dd v vn vt t ns ts hl hn ht hs hss
  exact put7_step d w dd v vn vt t ns ts hl hn ht hs (fun i hi W v hlv => copy7_any dd W v ts[i] hlv (by have := siz_get ts i hi; omega)) (fun e he W v t hb hlv hst => ih e he W dd v vn vt t ns ts hlv (hn.keep (below_keep hb)) (ht.below hb) hst hss)
end Go.Proofs.Ytcelpmojhjnggaa

/- The document's Infer: two rows that are filled, in plain words. -/
namespace Go.Proofs.Ytcelpmojhjnggaa
open Go Go.RowKit Go.Sort Go.Deep KindsP
set_option maxHeartbeats 1000000
set_option maxRecDepth 100000

/-! ### Two blocks may change -/
structure Aside (X Y : Nat) (w w' : World) : Prop where
  os : w'.os = w.os
  tape : w'.tape = w.tape
  output : w'.output = w.output
  size : w.heap.size ≤ w'.heap.size
  block : ∀ b, b < w.heap.size → b ≠ X → b ≠ Y → w'.heap[b]? = w.heap[b]?
theorem Aside.refl (X Y : Nat) (w : World) : Aside X Y w w := ⟨rfl, rfl, rfl, Nat.le_refl _, fun _ _ _ _ => rfl⟩
theorem Aside.trans {X Y : Nat} {a b c : World} (h : Aside X Y a b) (k : Aside X Y b c) : Aside X Y a c :=
  ⟨k.os.trans h.os, k.tape.trans h.tape, k.output.trans h.output, Nat.le_trans h.size k.size, fun i hi hx hy => (k.block i (Nat.lt_of_lt_of_le hi h.size) hx hy).trans (h.block i hi hx hy)⟩
theorem Aside.of {X Y : Nat} {w w' : World} (h : Below w.heap.size w w') : Aside X Y w w' := ⟨h.os, h.tape, h.output, h.size, fun b hb _ _ => h.block b hb⟩
theorem Aside.setX {X Y : Nat} {a w : World} (h : Aside X Y a w) (i : Nat) (v : Value) : Aside X Y a (w.setCell ⟨X, i, none⟩ v) :=
  h.trans ⟨rfl, rfl, rfl, by simp [World.setCell], fun b _ hx _ => Below.heap_setCell _ _ _ _ hx⟩
theorem Aside.setY {X Y : Nat} {a w : World} (h : Aside X Y a w) (i : Nat) (v : Value) : Aside X Y a (w.setCell ⟨Y, i, none⟩ v) :=
  h.trans ⟨rfl, rfl, rfl, by simp [World.setCell], fun b _ _ hy => Below.heap_setCell _ _ _ _ hy⟩
theorem Aside.cell {X Y : Nat} {w w' : World} (h : Aside X Y w w') {a : Addr} {v : Value} (hc : w.cell? a = some v) (hx : a.block ≠ X) (hy : a.block ≠ Y) : w'.cell? a = some v :=
  (World.cell?_of_block (w := w) (h.block a.block (World.block_lt_of_cell? w _ hc) hx hy)).trans hc
theorem Aside.below {X Y : Nat} {w0 w w' : World} (h : Aside X Y w w') (hb : Below w0.heap.size w0 w) (hs : w0.heap.size ≤ w.heap.size) (hX : w0.heap.size ≤ X) (hY : w0.heap.size ≤ Y) : Below w0.heap.size w0 w' :=
  hb.trans ⟨h.os, h.tape, h.output, h.size, fun k hk => h.block k (by omega) (by omega) (by omega)⟩

/-! ### Rows -/
def zTy : Ty := .mk 0 ⟨#[]⟩ ⟨#[]⟩ [] []
theorem zTy_lies (ok : Nat → Prop) (w : World) (D : Nat) (hD : 1 ≤ D) : LiesIn ok w D (.agg #[.int .i64 0, .string ⟨#[]⟩, .string ⟨#[]⟩, .slice none 0 0, .slice none 0 0]) zTy := by
  obtain ⟨e, rfl⟩ : ∃ e, D = e + 1 := ⟨D - 1, by omega⟩
  exact ⟨_, _, rfl, ⟨none, 0, rfl, by simp, by unfold maxLen; omega, .inl rfl⟩, ⟨none, 0, rfl, by simp, by unfold maxLen; omega, .inl rfl⟩⟩
abbrev okS (X Y : Nat) : Nat → Prop := fun b => b ≠ X ∧ b ≠ Y
/-- block X holds n types -/
def TsIs (ok : Nat → Prop) (w : World) (X n D : Nat) (g : Nat → Ty) : Prop :=
  ∃ cs : Array Value, w.heap[X]? = some (.cells cs 31 (0, 0)) ∧ ∀ k, k < n → ∃ x0 x1 x2 x3 x4 : Value, cs[k * 5]? = some x0 ∧ cs[k * 5 + 1]? = some x1 ∧ cs[k * 5 + 2]? = some x2 ∧ cs[k * 5 + 3]? = some x3 ∧ cs[k * 5 + 4]? = some x4 ∧ LiesIn ok w D (.agg #[x0, x1, x2, x3, x4]) (g k)
theorem TsIs.lt {ok : Nat → Prop} {w : World} {X n D : Nat} {g : Nat → Ty} (h : TsIs ok w X n D g) : X < w.heap.size := by
  obtain ⟨cs, h1, _⟩ := h
  exact (Array.getElem?_eq_some_iff.1 h1).1
theorem TsIs.frozen {ok : Nat → Prop} {w : World} {X n D : Nat} {g : Nat → Ty} (h : TsIs ok w X n D g) : ∀ i, w.frozen? ⟨X, i, none⟩ = false := by
  obtain ⟨cs, h1, _⟩ := h
  intro i
  simp [World.frozen?, h1]
theorem TsIs.cell {ok : Nat → Prop} {w : World} {X n D : Nat} {g : Nat → Ty} (h : TsIs ok w X n D g) (k : Nat) (hk : k < n) : ∃ x0 x1 x2 x3 x4 : Value, Five w X (k * 5) x0 x1 x2 x3 x4 ∧ LiesIn ok w D (.agg #[x0, x1, x2, x3, x4]) (g k) := by
  obtain ⟨cs, h1, h2⟩ := h
  obtain ⟨x0, x1, x2, x3, x4, c0, c1, c2, c3, c4, hl⟩ := h2 k hk
  exact ⟨x0, x1, x2, x3, x4, ⟨by simp [World.cell?, h1, c0], by simp [World.cell?, h1, c1], by simp [World.cell?, h1, c2], by simp [World.cell?, h1, c3], by simp [World.cell?, h1, c4]⟩, hl⟩
theorem TsIs.keep {ok : Nat → Prop} {w w' : World} {X n D : Nat} {g : Nat → Ty} (h : TsIs ok w X n D g) (hX : w'.heap[X]? = w.heap[X]?) (hk : ∀ b, ok b → b < w.heap.size → w'.heap[b]? = w.heap[b]?) : TsIs ok w' X n D g := by
  obtain ⟨cs, h1, h2⟩ := h
  refine ⟨cs, hX.trans h1, fun k hkn => ?_⟩
  obtain ⟨x0, x1, x2, x3, x4, c0, c1, c2, c3, c4, hl⟩ := h2 k hkn
  exact ⟨x0, x1, x2, x3, x4, c0, c1, c2, c3, c4, hl.kept (fun b hb hlt => ⟨hb, hk b hb hlt⟩)⟩
theorem setAt {w : World} {X i : Nat} {cs : Array Value} {t : TypeId} {fr : Nat × Nat} (v : Value) (h : w.heap[X]? = some (.cells cs t fr)) : (w.setCell ⟨X, i, none⟩ v).heap[X]? = some (.cells (cs.setIfInBounds i v) t fr) := by
  simp [World.setCell, Array.getElem?_modify, h]
abbrev five (w : World) (X o : Nat) (t0 t1 t2 t3 t4 : Value) : World := ((((w.setCell ⟨X, o, none⟩ t0).setCell ⟨X, o + 1, none⟩ t1).setCell ⟨X, o + 2, none⟩ t2).setCell ⟨X, o + 3, none⟩ t3).setCell ⟨X, o + 4, none⟩ t4
theorem five_other (w : World) (X o : Nat) (t0 t1 t2 t3 t4 : Value) (b : Nat) (h : b ≠ X) : (five w X o t0 t1 t2 t3 t4).heap[b]? = w.heap[b]? := by
  rw [five, Below.heap_setCell _ _ _ _ h, Below.heap_setCell _ _ _ _ h, Below.heap_setCell _ _ _ _ h, Below.heap_setCell _ _ _ _ h, Below.heap_setCell _ _ _ _ h]
theorem five_size (w : World) (X o : Nat) (t0 t1 t2 t3 t4 : Value) : (five w X o t0 t1 t2 t3 t4).heap.size = w.heap.size := by simp [five]
theorem TsIs.set {ok : Nat → Prop} {w : World} {X n D : Nat} {g : Nat → Ty} (h : TsIs ok w X n D g) (hok : ¬ ok X) (k : Nat) (t0 t1 t2 t3 t4 : Value) (a : Ty) (hu : LiesIn ok w D (.agg #[t0, t1, t2, t3, t4]) a) (hkn : k < n) :
    TsIs ok (five w X (k * 5) t0 t1 t2 t3 t4) X n D (fun j => if j = k then a else g j) := by
  obtain ⟨cs, h1, h2⟩ := h
  have hkeep : ∀ (v : Value) (t : Ty), LiesIn ok w D v t → LiesIn ok (five w X (k * 5) t0 t1 t2 t3 t4) D v t := fun v t hl => hl.kept (fun b hb _ => ⟨hb, five_other _ _ _ _ _ _ _ _ b (fun e => hok (by rw [← e]; exact hb))⟩)
  refine ⟨_, setAt t4 (setAt t3 (setAt t2 (setAt t1 (setAt t0 h1)))), fun j hj => ?_⟩
  obtain ⟨y0, y1, y2, y3, y4, d0, d1, d2, d3, d4, hl'⟩ := h2 k hkn
  have s4 := (Array.getElem?_eq_some_iff.1 d4).1
  dsimp only
  by_cases hjk : j = k
  · subst hjk
    rw [if_pos rfl]
    refine ⟨t0, t1, t2, t3, t4, ?_, ?_, ?_, ?_, ?_, hkeep _ _ hu⟩ <;> simp [Array.getElem?_setIfInBounds] <;> omega
  · rw [if_neg hjk]
    obtain ⟨x0, x1, x2, x3, x4, c0, c1, c2, c3, c4, hl⟩ := h2 j hj
    have n0 : ∀ a b : Nat, a < 5 → b < 5 → ¬ (k * 5 + a = j * 5 + b) := by intro a b ha hb; omega
    have m0 : ∀ b : Nat, b < 5 → ¬ (k * 5 = j * 5 + b) := by intro b hb; omega
    have m1 : ∀ a : Nat, a < 5 → ¬ (k * 5 + a = j * 5) := by intro a ha; omega
    have m2 : ¬ (k * 5 = j * 5) := by omega
    refine ⟨x0, x1, x2, x3, x4, ?_, ?_, ?_, ?_, ?_, hkeep _ _ hl⟩
    · simp only [Array.getElem?_setIfInBounds]; simp [m1, m2, c0]
    · simp only [Array.getElem?_setIfInBounds]; simp [m0, n0, c1]; omega
    · simp only [Array.getElem?_setIfInBounds]; simp [m0, n0, c2]; omega
    · simp only [Array.getElem?_setIfInBounds]; simp [m0, n0, c3]; omega
    · simp only [Array.getElem?_setIfInBounds]; simp [m0, c4]; omega
/-- block Y holds n truth values -/
def HsIs (w : World) (Y n : Nat) (h : Nat → Bool) : Prop :=
  ∃ cs : Array Value, w.heap[Y]? = some (.cells cs 4 (0, 0)) ∧ ∀ k, k < n → cs[k]? = some (.bool (h k))
theorem HsIs.lt {w : World} {Y n : Nat} {h : Nat → Bool} (hh : HsIs w Y n h) : Y < w.heap.size := by
  obtain ⟨cs, h1, _⟩ := hh
  exact (Array.getElem?_eq_some_iff.1 h1).1
theorem HsIs.cell {w : World} {Y n : Nat} {h : Nat → Bool} (hh : HsIs w Y n h) (k : Nat) (hk : k < n) : w.cell? ⟨Y, k, none⟩ = some (.bool (h k)) ∧ w.frozen? ⟨Y, k, none⟩ = false := by
  obtain ⟨cs, h1, h2⟩ := hh
  exact ⟨by simp [World.cell?, h1, h2 k hk], by simp [World.frozen?, h1]⟩
theorem HsIs.keep {w w' : World} {Y n : Nat} {h : Nat → Bool} (hh : HsIs w Y n h) (hY : w'.heap[Y]? = w.heap[Y]?) : HsIs w' Y n h := by
  obtain ⟨cs, h1, h2⟩ := hh
  exact ⟨cs, hY.trans h1, h2⟩
theorem HsIs.set {w : World} {Y n : Nat} {h : Nat → Bool} (hh : HsIs w Y n h) (k : Nat) (b : Bool) (hk : k < n) : HsIs (w.setCell ⟨Y, k, none⟩ (.bool b)) Y n (fun j => if j = k then b else h j) := by
  obtain ⟨cs, h1, h2⟩ := hh
  refine ⟨_, setAt _ h1, fun j hj => ?_⟩
  have hs := (Array.getElem?_eq_some_iff.1 (h2 k hk)).1
  rw [Array.getElem?_setIfInBounds]
  by_cases hjk : j = k
  · subst hjk; simp [hs]
  · simp [hjk, Ne.symm hjk, h2 j hj]

/-! ### What was found -/
theorem idx_small {ns : List ByteArray} {n : ByteArray} {k : Nat} (h : Lib.idxOfS ns n = k) : k < ns.length ∧ ns.getD k ByteArray.empty = n := by
  have key : ∀ (zs : List ByteArray) (i : Nat) (k : Nat), Lib.idxFromS zs n i = (i : Int) + k → 0 ≤ i → k < zs.length ∧ zs.getD k ByteArray.empty = n := by
    intro zs
    induction zs with
    | nil => intro i k h h0; rw [Lib.idxFromS] at h; omega
    | cons z zs ih =>
      intro i k h h0
      rw [Lib.idxFromS] at h
      split at h
      · next e =>
        have : k = 0 := by omega
        subst this
        exact ⟨by simp, by simpa using e⟩
      · cases k with
        | zero =>
          exfalso
          have hlt : ∀ (zs : List ByteArray) (i : Nat), Lib.idxFromS zs n i = -1 ∨ (i : Int) ≤ Lib.idxFromS zs n i := by
            intro zs
            induction zs with
            | nil => intro i; left; rfl
            | cons z zs ih =>
              intro i
              rw [Lib.idxFromS]
              split
              · right; omega
              · rcases ih (i + 1) with h | h
                · left; exact h
                · right; omega
          rcases hlt zs (i + 1) with h' | h' <;> omega
        | succ k =>
          obtain ⟨h1, h2⟩ := ih (i + 1) k (by rw [h]; push_cast; omega) (by omega)
          exact ⟨by simp; omega, by simpa using h2⟩
  exact key ns 0 k (by unfold Lib.idxOfS at h; omega) (by omega)
/-- what lies in slot k -/
def slot (ns : List ByteArray) (f : ByteArray → Option Ty) (k : Nat) : Option Ty := if Lib.idxOfS ns (ns.getD k ByteArray.empty) = k then f (ns.getD k ByteArray.empty) else none
theorem slot_at {ns : List ByteArray} {f : ByteArray → Option Ty} {n : ByteArray} {k : Nat} (h : Lib.idxOfS ns n = k) : slot ns f k = f n := by
  have h2 := (idx_small h).2
  unfold slot
  rw [h2, if_pos h]
theorem slot_upd {ns : List ByteArray} {f : ByteArray → Option Ty} {n : ByteArray} {k : Nat} (h : Lib.idxOfS ns n = k) (a : Ty) (j : Nat) : slot ns (upd f n a) j = if j = k then some a else slot ns f j := by
  by_cases hj : j = k
  · subst hj; rw [if_pos rfl, slot_at h]; simp [upd]
  · rw [if_neg hj]
    unfold slot
    split
    · next e =>
      have hne : ns.getD j ByteArray.empty ≠ n := by intro e2; rw [e2, h] at e; omega
      simp only [upd, if_neg hne]
    · rfl
structure Found (w : World) (X Y D : Nat) (ns : List ByteArray) (f : ByteArray → Option Ty) : Prop where
  ts : TsIs (okS X Y) w X ns.length D (fun k => (slot ns f k).getD zTy)
  hs : HsIs w Y ns.length (fun k => (slot ns f k).isSome)
theorem Found.below {w w' : World} {X Y D : Nat} {ns : List ByteArray} {f : ByteArray → Option Ty} (h : Found w X Y D ns f) (hb : Below w.heap.size w w') : Found w' X Y D ns f :=
  ⟨h.ts.keep (hb.block X h.ts.lt) (fun b _ hlt => hb.block b hlt), h.hs.keep (hb.block Y h.hs.lt)⟩
theorem Found.put {w w3 : World} {X Y D k : Nat} {ns : List ByteArray} {f : ByteArray → Option Ty} {n : ByteArray} (h : Found w X Y D ns f) (hXY : X ≠ Y) (hk : Lib.idxOfS ns n = k) (t0 t1 t2 t3 t4 : Value) (a : Ty)
    (hb : Below w.heap.size (w.setCell ⟨Y, k, none⟩ (.bool true)) w3) (hu : LiesIn (fun b => w.heap.size ≤ b) w3 D (.agg #[t0, t1, t2, t3, t4]) a) : Found (five w3 X (k * 5) t0 t1 t2 t3 t4) X Y D ns (upd f n a) := by
  have hkn := (idx_small hk).1
  have lX := h.ts.lt
  have lY := h.hs.lt
  have h1 : TsIs (okS X Y) w3 X ns.length D (fun k => (slot ns f k).getD zTy) := h.ts.keep ((hb.block X lX).trans (Below.heap_setCell _ _ _ _ hXY)) (fun b hb' hlt => (hb.block b hlt).trans (Below.heap_setCell _ _ _ _ hb'.2))
  have h2 : HsIs w3 Y ns.length (fun j => if j = k then true else (slot ns f j).isSome) := (h.hs.set k true hkn).keep (hb.block Y lY)
  have h3 := h1.set (fun e => e.1 rfl) k t0 t1 t2 t3 t4 a (hu.kept (fun b h1 _ => ⟨⟨by omega, by omega⟩, rfl⟩)) hkn
  have h4 := h2.keep (five_other w3 X (k * 5) t0 t1 t2 t3 t4 Y (Ne.symm hXY))
  refine ⟨?_, ?_⟩
  · have e : (fun j => (slot ns (upd f n a) j).getD zTy) = fun j => if j = k then a else (slot ns f j).getD zTy := by
      funext j; rw [slot_upd hk]; by_cases hj : j = k <;> simp [hj]
    rw [e]; exact h3
  · have e : (fun j => (slot ns (upd f n a) j).isSome) = fun j => if j = k then true else (slot ns f j).isSome := by
      funext j; rw [slot_upd hk]; by_cases hj : j = k <;> simp [hj]
    rw [e]; exact h4
theorem slot_none (ns : List ByteArray) (j : Nat) : slot ns noTys j = none := by unfold slot; split <;> rfl
theorem made_get (z : Array Value) (n i : Nat) (h : i < n) : (madeCells z n)[i]? = some z[i % z.size]! := by
  unfold madeCells
  rw [Array.getElem?_map, Array.getElem?_range]
  simp [h]
theorem Found.new {w : World} {X Y D : Nat} {ns : List ByteArray} (hD : 1 ≤ D) (hX : w.heap[X]? = some (.cells (madeCells #[.int .i64 0, .string ⟨#[]⟩, .string ⟨#[]⟩, .slice none 0 0, .slice none 0 0] (ns.length * 5)) 31 (0, 0))) (hY : w.heap[Y]? = some (.cells (madeCells #[.bool false] ns.length) 4 (0, 0))) : Found w X Y D ns noTys := by
  refine ⟨⟨_, hX, fun k hk => ⟨_, _, _, _, _, made_get _ _ _ (by omega), made_get _ _ _ (by omega), made_get _ _ _ (by omega), made_get _ _ _ (by omega), made_get _ _ _ (by omega), ?_⟩⟩, ⟨_, hY, fun k hk => ?_⟩⟩
  · dsimp only
    rw [slot_none]
    simp only [Option.getD_none]
    have hs : (#[Value.int .i64 0, .string ⟨#[]⟩, .string ⟨#[]⟩, .slice none 0 0, .slice none 0 0] : Array Value).size = 5 := rfl
    rw [hs, show k * 5 % 5 = 0 by omega, show (k * 5 + 1) % 5 = 1 by omega, show (k * 5 + 2) % 5 = 2 by omega, show (k * 5 + 3) % 5 = 3 by omega, show (k * 5 + 4) % 5 = 4 by omega]
    exact zTy_lies _ _ _ hD
  · rw [made_get _ _ _ hk]
    dsimp only
    rw [slot_none]
    simp [Nat.mod_one]
end Go.Proofs.Ytcelpmojhjnggaa
