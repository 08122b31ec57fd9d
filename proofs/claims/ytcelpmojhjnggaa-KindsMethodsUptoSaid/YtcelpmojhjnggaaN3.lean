/- The document's Put and Copy, for every type. -/
import Derived.Test.YtcelpmojhjnggaaN2
namespace Go.Proofs.Ytcelpmojhjnggaa
open Go Go.RowKit Go.Sort Go.Deep KindsP
set_option maxHeartbeats 2000000
set_option maxRecDepth 100000

mutual
theorem putT_nil : ∀ t : Ty, putT [] [] t = t
  | .mk k p n la lr => by
    have hf : (if (k == 9) = true then found [] [] n else none) = none := by
      by_cases h : (k == 9) = true
      · rw [if_pos h]
        cases hx : found [] [] n with
        | none => rfl
        | some t => obtain ⟨_, i, _, hlt, _⟩ := found_small _ _ _ _ hx; simp at hlt
      · rw [if_neg h]
    rw [putT, hf]
    show Ty.mk k p n (putL [] [] la) (putL [] [] lr) = _
    rw [putL_nil la, putL_nil lr]
theorem putL_nil : ∀ l : List Ty, putL [] [] l = l
  | [] => by rw [putL]
  | t :: l => by rw [putL, putT_nil t, putL_nil l]
end
def Post7 (W : World) (D : Nat) (t : Ty) (e : Ending) (w' : World) : Prop := ∃ u, e = .returned u ∧ LiesIn (fun b => W.heap.size ≤ b) w' D u t ∧ Below W.heap.size W w'
theorem put7_hit (dd : Nat) (w : World) (p n : ByteArray) (aa ar an : Option Addr) (na ca nr cr nn cn ct i bt ot : Nat) (ts : List Ty) (hi : i < ts.length) (hrow : RowOf (Lies w dd) w (.slice (some ⟨bt, ot, none⟩) ts.length ct) ts)
    (hI : ∀ w', Below w.heap.size w w' → Calls Try.prog 41 #[.slice an nn cn, .string n] w' fun e w'' => e = .returned (.int .i64 i) ∧ w'' = w')
    (hC : ∀ (W : World) (v : Value), Lies W dd v ts[i] → Calls Try.prog 17 #[v] W (Post7 W dd ts[i])) :
    Calls Try.prog 20 #[.agg #[.int .i64 9, .string p, .string n, .slice aa na ca, .slice ar nr cr], .slice an nn cn, .slice (some ⟨bt, ot, none⟩) ts.length ct] w (Post7 w dd ts[i]) := by
  have hbw := alloc2_below w (.cells #[.int .i64 9, .string p, .string n, .slice aa na ca, .slice ar nr cr] 31) (.cells #[.int .i64 0, .string ⟨#[]⟩, .string ⟨#[]⟩, .slice none 0 0, .slice none 0 0] 31)
  have HI := Lib.hid (hI _ hbw)
  obtain ⟨x0, x1, x2, x3, x4, hl, hf⟩ := hrow.get i ts[i] (by simp)
  obtain ⟨f0, f1, f2, f3, f4⟩ := hf.below hbw
  have HL := Lib.hid (hC _ _ (Lies.below hbw _ _ _ hl))
  have HK := Lib.hid (fun (W : World) (hb : Below (W2 w 9 p n (.slice aa na ca) (.slice ar nr cr)).heap.size (W2 w 9 p n (.slice aa na ca) (.slice ar nr cr)) W) => alloc_known2 hb)
  obtain ⟨_, _, hv, hcc, hcm, _⟩ := hrow.form
  have hll := Nat.le_trans hcc hcm
  unfold maxLen at hll
  clear hv hI hl hf hrow hcc hcm hbw hC
  go_enter Try.func20, Try.ntmps20
  go_wp2_with (first | (go_at_call 41; refine HI.out.mono ?_; rintro e w5 ⟨rfl, hw5⟩; obtain rfl := hw5.symm) | (go_at_call 17; refine HL.out.mono ?_; rintro e w2 ⟨u, rfl, hu, hb⟩; refine Hid.out ?_))
  refine Lib.hid ?_
  obtain ⟨hk0, hk1, hbw⟩ := HK.out w2 hb
  obtain ⟨c0, c1, c2, c3, c4', rfl⟩ := lies_five (LiesIn.lies _ _ _ hu)
  obtain ⟨t0, t1, t2, t3, t4, t5, t6, t7, t8, rfl, rfl, rfl, rfl, rfl⟩ := lies_form (LiesIn.lies _ _ _ hu)
  have d0 : w2.cell? ⟨w.heap.size + 1, 0, none⟩ = some (.int .i64 0) := by simp [World.cell?, hk1]
  have d1 : w2.cell? ⟨w.heap.size + 1, 1, none⟩ = some (.string ⟨#[]⟩) := by simp [World.cell?, hk1]
  have d2 : w2.cell? ⟨w.heap.size + 1, 2, none⟩ = some (.string ⟨#[]⟩) := by simp [World.cell?, hk1]
  have d3 : w2.cell? ⟨w.heap.size + 1, 3, none⟩ = some (.slice none 0 0) := by simp [World.cell?, hk1]
  have d4 : w2.cell? ⟨w.heap.size + 1, 4, none⟩ = some (.slice none 0 0) := by simp [World.cell?, hk1]
  have fz : ∀ i, w2.frozen? ⟨w.heap.size + 1, i, none⟩ = false := fun i => by simp [World.frozen?, hk1]
  have HU := Lib.hid hu
  have HBW := Lib.hid hbw
  clear hk0 hk1 hbw hu hb f0 f1 f2 f3 f4
  go_wp2_with fail
  refine bodyPost_ret (v := .agg #[.int .i64 t0, .string t1, .string t2, .slice t3 t4 t5, .slice t6 t7 t8]) (by simp [results, Try.results20, go_sem, d0, d1, d2, d3, d4]) rfl ⟨_, rfl, ?_, ?_⟩
  · refine HU.out.kept (fun b h1 h2 => ⟨?_, keep5 _ _ _ _ _ _ _ b ?_⟩)
    · simp at h1; omega
    · simp at h1; omega
  · exact ((((HBW.out.setCell (by simp <;> omega) _).setCell (by simp <;> omega) _).setCell (by simp <;> omega) _).setCell (by simp <;> omega) _).setCell (by simp <;> omega) _
theorem put7_step (d : Nat) (w : World) (dd : Nat) (v vn vt : Value) (t : Ty) (ns : List ByteArray) (ts : List Ty) (hl : Lies w d v t) (hn : NamesIs w vn ns) (ht : RowOf (Lies w dd) w vt ts) (hs : sizT t ≤ 1000000000)
    (hC : ∀ (i : Nat) (hi : i < ts.length) (W : World) (v : Value), Lies W dd v ts[i] → Calls Try.prog 17 #[v] W (Post7 W dd ts[i]))
    (ih : ∀ e, e < d → ∀ (W : World) (v : Value) (t : Ty), Below w.heap.size w W → Lies W e v t → sizT t ≤ 1000000000 → Calls Try.prog 20 #[v, vn, vt] W (Post7 W (e + dd) (putT ns ts t))) :
    Calls Try.prog 20 #[v, vn, vt] w (Post7 w (d + dd) (putT ns ts t)) := by
  obtain ⟨x0, x1, x2, x3, x4, rfl⟩ := lies_five hl
  obtain ⟨e, k, p, n, a1, m1, q1, a2, m2, q2, la, lr, rfl, rfl, rfl, rfl, rfl, rfl, rfl, hra, hrr⟩ := lies_at hl
  rw [sizT] at hs
  have hla := siz_len la
  have hlr := siz_len lr
  obtain ⟨⟨an, cn, rfl, hn1, hn2⟩, hn3⟩ := id hn
  obtain ⟨at0, ct, rfl, hct, hctm, htf⟩ := ht.form
  have hidx : ∀ w', Below w.heap.size w w' → Calls Try.prog 41 #[.slice an ns.length cn, .string n] w' fun e w'' => e = .returned (.int .i64 (Lib.idxOfS ns n)) ∧ w'' = w' := fun w' hb => place_any w' _ ns (hn.keep (below_keep hb)) n
  cases hf : (if (k == 9) = true then found ns ts n else none) with
  | some t0 =>
    have hp : putT ns ts (.mk k p n la lr) = t0 := by rw [putT, hf]
    rw [hp]
    have hk9 : (k == 9) = true := by
      cases h : (k == 9)
      · rw [h] at hf; simp at hf
      · rfl
    rw [if_pos hk9] at hf
    obtain ⟨h0, i, hi, hlt, rfl⟩ := found_small ns ts n t0 hf
    obtain rfl : k = 9 := eq_of_beq hk9
    obtain ⟨bt, ot, rfl⟩ := htf (by omega)
    rw [hi] at hidx
    refine (put7_hit dd w p n a1 a2 an m1 q1 m2 q2 ns.length cn ct i bt ot ts hlt ht hidx (hC i hlt)).mono ?_
    rintro r w' ⟨u, rfl, hu, hb⟩
    exact ⟨u, rfl, hu.le (by omega), hb⟩
  | none =>
    have hp : putT ns ts (.mk k p n la lr) = .mk k p n (la.map (putT ns ts)) (lr.map (putT ns ts)) := by rw [putT, hf]; show Ty.mk _ _ _ _ _ = _; rw [putL_map, putL_map]
    rw [hp]
    obtain ⟨_, _, hx1, _⟩ := hra.form
    simp only [Value.slice.injEq] at hx1
    obtain ⟨rfl, rfl, rfl⟩ := hx1
    obtain ⟨_, _, hx2, _⟩ := hrr.form
    simp only [Value.slice.injEq] at hx2
    obtain ⟨rfl, rfl, rfl⟩ := hx2
    have hx := put7_x e (e + dd) w k p n a1 a2 an at0 q1 q2 ns.length cn ts.length ct la lr (putT ns ts) (Lib.idxOfS ns n) hra hrr (by omega) (by omega) (fun h9 => by rw [if_pos h9] at hf; exact found_none ns ts n hf) hidx
      (fun i hi W v hb hlv => ih e (by omega) W v la[i] hb hlv (by have := siz_get la i hi; omega)) (fun i hi W v hb hlv => ih e (by omega) W v lr[i] hb hlv (by have := siz_get lr i hi; omega))
    refine hx.mono ?_
    rintro r w' ⟨u, rfl, hu, hb⟩
    exact ⟨u, rfl, hu.le (by omega), hb⟩
theorem names_nil (w : World) : NamesIs w (.slice none 0 0) [] := ⟨⟨none, 0, rfl, by simp, .inl rfl⟩, by simp⟩
theorem tys_nil (w : World) (d : Nat) : RowOf (Lies w d) w (.slice none 0 0) [] := ⟨none, 0, rfl, by simp, by unfold maxLen; omega, .inl rfl⟩
theorem put7_plain (d : Nat) : ∀ (w : World) (v : Value) (t : Ty), Lies w d v t → sizT t ≤ 1000000000 → Calls Try.prog 20 #[v, .slice none 0 0, .slice none 0 0] w (Post7 w d t) := by
  induction d using Nat.strongRecOn with
  | ind d ih =>
  intro w v t hl hs
  have := put7_step d w 0 v _ _ t [] [] hl (names_nil w) (tys_nil w 0) hs (fun i hi => by simp at hi) (fun e he W v t _ hl hs => by rw [putT_nil]; exact ih e he W v t hl hs)
  rwa [putT_nil] at this
theorem copy7_x (d : Nat) (w : World) (k : Int) (p n : ByteArray) (aa ar : Option Addr) (na ca nr cr : Nat) (t : Ty) (hl : Lies w d (.agg #[.int .i64 k, .string p, .string n, .slice aa na ca, .slice ar nr cr]) t) (hs : sizT t ≤ 1000000000) :
    Calls Try.prog 17 #[.agg #[.int .i64 k, .string p, .string n, .slice aa na ca, .slice ar nr cr]] w (Post7 w d t) := by
  have hbw := alloc2_below w (.cells #[.int .i64 k, .string p, .string n, .slice aa na ca, .slice ar nr cr] 31) (.cells #[.int .i64 0, .string ⟨#[]⟩, .string ⟨#[]⟩, .slice none 0 0, .slice none 0 0] 31)
  have HL := Lib.hid (put7_plain d _ _ t (Lies.below hbw _ _ _ hl) hs)
  have HK := Lib.hid (fun (W : World) (hb : Below (W2 w k p n (.slice aa na ca) (.slice ar nr cr)).heap.size (W2 w k p n (.slice aa na ca) (.slice ar nr cr)) W) => alloc_known2 hb)
  clear hl hbw
  go_enter Try.func17, Try.ntmps17
  go_wp2_with (first | (go_at_call 20; refine HL.out.mono ?_; rintro e w2 ⟨u, rfl, hu, hb⟩; refine Hid.out ?_))
  refine Lib.hid ?_
  obtain ⟨hk0, hk1, hbw⟩ := HK.out w2 hb
  obtain ⟨c0, c1, c2, c3, c4', rfl⟩ := lies_five (LiesIn.lies _ _ _ hu)
  obtain ⟨t0, t1, t2, t3, t4, t5, t6, t7, t8, rfl, rfl, rfl, rfl, rfl⟩ := lies_form (LiesIn.lies _ _ _ hu)
  have d0 : w2.cell? ⟨w.heap.size + 1, 0, none⟩ = some (.int .i64 0) := by simp [World.cell?, hk1]
  have d1 : w2.cell? ⟨w.heap.size + 1, 1, none⟩ = some (.string ⟨#[]⟩) := by simp [World.cell?, hk1]
  have d2 : w2.cell? ⟨w.heap.size + 1, 2, none⟩ = some (.string ⟨#[]⟩) := by simp [World.cell?, hk1]
  have d3 : w2.cell? ⟨w.heap.size + 1, 3, none⟩ = some (.slice none 0 0) := by simp [World.cell?, hk1]
  have d4 : w2.cell? ⟨w.heap.size + 1, 4, none⟩ = some (.slice none 0 0) := by simp [World.cell?, hk1]
  have fz : ∀ i, w2.frozen? ⟨w.heap.size + 1, i, none⟩ = false := fun i => by simp [World.frozen?, hk1]
  have HU := Lib.hid hu
  have HBW := Lib.hid hbw
  clear hk0 hk1 hbw hu hb
  go_wp2_with fail
  refine bodyPost_ret (v := .agg #[.int .i64 t0, .string t1, .string t2, .slice t3 t4 t5, .slice t6 t7 t8]) (by simp [results, Try.results17, go_sem, d0, d1, d2, d3, d4]) rfl ⟨_, rfl, ?_, ?_⟩
  · refine HU.out.kept (fun b h1 h2 => ⟨?_, keep5 _ _ _ _ _ _ _ b ?_⟩)
    · simp at h1; omega
    · simp at h1; omega
  · exact ((((HBW.out.setCell (by simp <;> omega) _).setCell (by simp <;> omega) _).setCell (by simp <;> omega) _).setCell (by simp <;> omega) _).setCell (by simp <;> omega) _
theorem copy7_any (d : Nat) (w : World) (v : Value) (t : Ty) (hl : Lies w d v t) (hs : sizT t ≤ 1000000000) : Calls Try.prog 17 #[v] w (Post7 w d t) := by
  obtain ⟨x0, x1, x2, x3, x4, rfl⟩ := lies_five hl
  obtain ⟨_, _, _, _, _, _, _, _, _, rfl, rfl, rfl, rfl, rfl⟩ := lies_form hl
  exact copy7_x d w _ _ _ _ _ _ _ _ _ t hl hs
theorem put7_any (d : Nat) : ∀ (w : World) (dd : Nat) (v vn vt : Value) (t : Ty) (ns : List ByteArray) (ts : List Ty), Lies w d v t → NamesIs w vn ns → RowOf (Lies w dd) w vt ts → sizT t ≤ 1000000000 → sizL ts ≤ 1000000000 →
    Calls Try.prog 20 #[v, vn, vt] w (Post7 w (d + dd) (putT ns ts t)) := by
  induction d using Nat.strongRecOn with
  | ind d ih =>
  intro w dd v vn vt t ns ts hl hn ht hs hss
  exact put7_step d w dd v vn vt t ns ts hl hn ht hs (fun i hi W v hlv => copy7_any dd W v ts[i] hlv (by have := siz_get ts i hi; omega)) (fun e he W v t hb hlv hst => ih e he W dd v vn vt t ns ts hlv (hn.keep (below_keep hb)) (ht.below hb) hst hss)
end Go.Proofs.Ytcelpmojhjnggaa
