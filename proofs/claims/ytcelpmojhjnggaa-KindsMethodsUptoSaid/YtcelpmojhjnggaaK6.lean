/- A type in memory of its own: each, copied. -/
import Derived.Test.YtcelpmojhjnggaaK5
import Derived.Deep.RegionWith
namespace Go.Proofs.Ytcelpmojhjnggaa
open Go Go.RowKit Go.Sort KindsP
set_option maxHeartbeats 1000000
set_option maxRecDepth 100000

theorem Try.info31' : (Try.prog.info? 31).map (fun i => (i.zero, i.size, i.bytes)) = some (some (.agg #[.int .i64 0, .string ⟨#[]⟩, .string ⟨#[]⟩, .slice none 0 0, .slice none 0 0]), 5, 88) := by kernel_rfl
/-- values of five cells each -/
def cells5 : Value → List Value
  | .agg cs => cs.toList
  | _ => []
def Fives (vs : List Value) : Prop := ∀ v ∈ vs, ∃ c0 c1 c2 c3 c4, v = .agg #[c0, c1, c2, c3, c4]
theorem fives_len (vs : List Value) (h : Fives vs) : (vs.flatMap cells5).length = vs.length * 5 := by
  induction vs with
  | nil => rfl
  | cons v vs ih =>
    obtain ⟨c0, c1, c2, c3, c4, rfl⟩ := h v (List.mem_cons_self ..)
    rw [List.flatMap_cons, List.length_append, ih (fun x hx => h x (List.mem_cons_of_mem _ hx)), List.length_cons]
    simp [cells5]; omega
theorem fives_get (vs : List Value) (h : Fives vs) : ∀ (i : Nat) (c0 c1 c2 c3 c4 : Value), vs[i]? = some (.agg #[c0, c1, c2, c3, c4]) →
    (vs.flatMap cells5)[i * 5]? = some c0 ∧ (vs.flatMap cells5)[i * 5 + 1]? = some c1 ∧ (vs.flatMap cells5)[i * 5 + 2]? = some c2 ∧ (vs.flatMap cells5)[i * 5 + 3]? = some c3 ∧ (vs.flatMap cells5)[i * 5 + 4]? = some c4 := by
  induction vs with
  | nil => intro i c0 c1 c2 c3 c4 hi; simp at hi
  | cons v vs ih =>
    intro i c0 c1 c2 c3 c4 hi
    obtain ⟨x0, x1, x2, x3, x4, rfl⟩ := h v (List.mem_cons_self ..)
    have e : ((Value.agg #[x0, x1, x2, x3, x4]) :: vs).flatMap cells5 = x0 :: x1 :: x2 :: x3 :: x4 :: vs.flatMap cells5 := rfl
    rw [e]
    cases i with
    | zero =>
      simp only [List.getElem?_cons_zero, Option.some.injEq, Value.agg.injEq, Array.mk.injEq, List.cons.injEq, and_true] at hi
      obtain ⟨rfl, rfl, rfl, rfl, rfl⟩ := hi
      exact ⟨rfl, rfl, rfl, rfl, rfl⟩
    | succ i =>
      rw [List.getElem?_cons_succ] at hi
      have := ih (fun x hx => h x (List.mem_cons_of_mem _ hx)) i c0 c1 c2 c3 c4 hi
      rw [show (i + 1) * 5 = i * 5 + 1 + 1 + 1 + 1 + 1 by omega]
      exact this
/-- a slice that holds types, in blocks that ok knows -/
def RowIn (ok : Nat → Prop) (R : Value → Ty → Prop) (w : World) (v : Value) (l : List Ty) : Prop :=
  ∃ a c, v = .slice a l.length c ∧ l.length ≤ c ∧ c ≤ maxLen ∧ (l = [] ∨ ∃ b o, a = some ⟨b, o, none⟩ ∧ ok b ∧ ∀ i x, l[i]? = some x → ∃ c0 c1 c2 c3 c4, R (.agg #[c0, c1, c2, c3, c4]) x ∧ Five w b (o + i * 5) c0 c1 c2 c3 c4)
/-- a type lies in memory, its rows in blocks that ok knows -/
def LiesIn (ok : Nat → Prop) (w : World) : Nat → Value → Ty → Prop
  | 0, _, _ => False
  | d + 1, v, .mk k p n la lr => ∃ va vr, v = .agg #[.int .i64 k, .string p, .string n, va, vr] ∧ RowIn ok (LiesIn ok w d) w va la ∧ RowIn ok (LiesIn ok w d) w vr lr
theorem RowIn.row {ok : Nat → Prop} {R R' : Value → Ty → Prop} {w : World} {v : Value} {l : List Ty} (h : RowIn ok R w v l) (hR : ∀ v t, R v t → R' v t) : RowOf R' w v l := by
  obtain ⟨a, c, h1, h2, h3, h4⟩ := h
  refine ⟨a, c, h1, h2, h3, ?_⟩
  rcases h4 with h4 | ⟨b, o, h5, _, h6⟩
  · exact .inl h4
  · refine .inr ⟨b, o, h5, fun i x hx => ?_⟩
    obtain ⟨c0, c1, c2, c3, c4, hr, hf⟩ := h6 i x hx
    exact ⟨c0, c1, c2, c3, c4, hR _ _ hr, hf⟩
theorem LiesIn.lies {ok : Nat → Prop} {w : World} : ∀ (d : Nat) (v : Value) (t : Ty), LiesIn ok w d v t → Lies w d v t
  | 0, _, _, h => h.elim
  | d + 1, _, .mk _ _ _ _ _, ⟨va, vr, h1, h2, h3⟩ => ⟨va, vr, h1, h2.row (LiesIn.lies d), h3.row (LiesIn.lies d)⟩
theorem five_kept {w w' : World} {b o : Nat} {c0 c1 c2 c3 c4 : Value} (h : Five w b o c0 c1 c2 c3 c4) (hb : w'.heap[b]? = w.heap[b]?) : Five w' b o c0 c1 c2 c3 c4 :=
  ⟨(World.cell?_of_block (w := w) (w' := w') hb).trans h.c0, (World.cell?_of_block (w := w) (w' := w') hb).trans h.c1, (World.cell?_of_block (w := w) (w' := w') hb).trans h.c2, (World.cell?_of_block (w := w) (w' := w') hb).trans h.c3, (World.cell?_of_block (w := w) (w' := w') hb).trans h.c4⟩
theorem RowIn.kept {ok ok' : Nat → Prop} {R R' : Value → Ty → Prop} {w w' : World} {v : Value} {l : List Ty} (h : RowIn ok R w v l) (hR : ∀ v t, R v t → R' v t) (hk : ∀ b, ok b → b < w.heap.size → ok' b ∧ w'.heap[b]? = w.heap[b]?) : RowIn ok' R' w' v l := by
  obtain ⟨a, c, h1, h2, h3, h4⟩ := h
  refine ⟨a, c, h1, h2, h3, ?_⟩
  by_cases hl : l = []
  · exact .inl hl
  rcases h4 with h4 | ⟨b, o, h5, ho, h6⟩
  · exact .inl h4
  · have hlt : b < w.heap.size := by
      cases l with
      | nil => exact absurd rfl hl
      | cons x xs =>
        obtain ⟨_, _, _, _, _, _, hf⟩ := h6 0 x rfl
        exact World.block_lt_of_cell? w _ hf.c0
    obtain ⟨k1, k2⟩ := hk b ho hlt
    refine .inr ⟨b, o, h5, k1, fun i x hx => ?_⟩
    obtain ⟨c0, c1, c2, c3, c4, hr, hf⟩ := h6 i x hx
    exact ⟨c0, c1, c2, c3, c4, hR _ _ hr, five_kept hf k2⟩
theorem LiesIn.kept {ok ok' : Nat → Prop} {w w' : World} (hk : ∀ b, ok b → b < w.heap.size → ok' b ∧ w'.heap[b]? = w.heap[b]?) : ∀ (d : Nat) (v : Value) (t : Ty), LiesIn ok w d v t → LiesIn ok' w' d v t
  | 0, _, _, h => h.elim
  | d + 1, _, .mk _ _ _ _ _, ⟨va, vr, h1, h2, h3⟩ => ⟨va, vr, h1, h2.kept (LiesIn.kept hk d) hk, h3.kept (LiesIn.kept hk d) hk⟩
theorem LiesIn.below {ok : Nat → Prop} {w w' : World} (hb : Below w.heap.size w w') {d : Nat} {v : Value} {t : Ty} (h : LiesIn ok w d v t) : LiesIn ok w' d v t := h.kept (fun b h1 h2 => ⟨h1, hb.block b h2⟩)
theorem RowIn.below {ok : Nat → Prop} {w w' : World} (hb : Below w.heap.size w w') {d : Nat} {v : Value} {l : List Ty} (h : RowIn ok (LiesIn ok w d) w v l) : RowIn ok (LiesIn ok w' d) w' v l := h.kept (fun _ _ h => h.below hb) (fun b h1 h2 => ⟨h1, hb.block b h2⟩)
theorem lies_five {w : World} {d : Nat} {v : Value} {t : Ty} (h : Lies w d v t) : ∃ c0 c1 c2 c3 c4, v = .agg #[c0, c1, c2, c3, c4] := by
  cases d with
  | zero => exact h.elim
  | succ d =>
  obtain ⟨k, p, n, la, lr⟩ := t
  obtain ⟨va, vr, rfl, _⟩ := h
  exact ⟨_, _, _, _, _, rfl⟩
/-- values that are types, one by one -/
def Vals (R : Value → Ty → Prop) (vs : List Value) (ts : List Ty) : Prop := vs.length = ts.length ∧ ∀ (i : Nat) (v : Value) (t : Ty), vs[i]? = some v → ts[i]? = some t → R v t
theorem Vals.mono {R R' : Value → Ty → Prop} {vs : List Value} {ts : List Ty} (h : Vals R vs ts) (hR : ∀ v t, R v t → R' v t) : Vals R' vs ts := ⟨h.1, fun i v t hv ht => hR _ _ (h.2 i v t hv ht)⟩
theorem Vals.fives {w : World} {d : Nat} {vs : List Value} {ts : List Ty} (h : Vals (Lies w d) vs ts) : Fives vs := by
  intro v hv
  obtain ⟨i, hi, rfl⟩ := List.mem_iff_getElem.1 hv
  have hl := h.1
  exact lies_five (h.2 i vs[i] (ts[i]'(by omega)) (List.getElem?_eq_getElem hi) (List.getElem?_eq_getElem (by omega)))
theorem Vals.snoc {R : Value → Ty → Prop} {vs : List Value} {ts : List Ty} {v : Value} {t : Ty} (h : Vals R vs ts) (hv : R v t) : Vals R (vs ++ [v]) (ts ++ [t]) := by
  refine ⟨by simp [h.1], fun i x y hx hy => ?_⟩
  by_cases hi : i < vs.length
  · rw [List.getElem?_append_left hi] at hx
    rw [List.getElem?_append_left (by rw [← h.1]; exact hi)] at hy
    exact h.2 i x y hx hy
  · rw [List.getElem?_append_right (by omega)] at hx
    rw [List.getElem?_append_right (by rw [← h.1]; omega), ← h.1] at hy
    cases hz : i - vs.length with
    | zero => rw [hz] at hx hy; simp at hx hy; rw [← hx, ← hy]; exact hv
    | succ n => rw [hz] at hx; simp at hx
theorem RowIn.of_own {w : World} {B d : Nat} {ok : Nat → Prop} {v : Value} {vs : List Value} {ts : List Ty} (h : w.ownsRow B 31 5 v ts.length (vs.flatMap cells5)) (hv : Vals (LiesIn ok w d) vs ts) (hok : ∀ b, B ≤ b → ok b) : RowIn ok (LiesIn ok w d) w v ts := by
  have hcc := fun g hg => h.cells (g := g) hg
  rcases h.2 with ⟨rfl, h0⟩ | ⟨g, cap, cur, rfl, hB, hg, hnc, hcm, _⟩
  · exact ⟨none, 0, by rw [h0], by omega, by unfold maxLen; omega, .inl (List.length_eq_zero_iff.1 h0)⟩
  · refine ⟨_, cap, rfl, hnc, hcm, .inr ⟨g, 0, rfl, hok g hB, fun i x hx => ?_⟩⟩
    have hi : i < ts.length := (List.getElem?_eq_some_iff.1 hx).1
    have hiv : i < vs.length := by rw [hv.1]; exact hi
    have hl := hv.2 i vs[i] x (List.getElem?_eq_getElem hiv) hx
    obtain ⟨c0, c1, c2, c3, c4, e⟩ := lies_five (LiesIn.lies _ _ _ hl)
    obtain ⟨g0, g1, g2, g3, g4⟩ := fives_get vs (hv.mono (fun _ _ h => LiesIn.lies _ _ _ h)).fives i c0 c1 c2 c3 c4 (by rw [List.getElem?_eq_getElem hiv, e])
    refine ⟨c0, c1, c2, c3, c4, by rw [← e]; exact hl, ?_⟩
    have hc : ∀ (j : Nat) (u : Value), (vs.flatMap cells5)[j]? = some u → w.cell? ⟨g, 0 + j, none⟩ = some u := fun j u hu => by have := hcc g rfl j u hu; rwa [addr_add] at this
    refine ⟨hc _ _ g0, ?_, ?_, ?_, ?_⟩
    · have := hc _ _ g1; rwa [← Nat.add_assoc] at this
    · have := hc _ _ g2; rwa [← Nat.add_assoc] at this
    · have := hc _ _ g3; rwa [← Nat.add_assoc] at this
    · have := hc _ _ g4; rwa [← Nat.add_assoc] at this

abbrev fCopied : Value := .func (.func 39) #[] #[]
theorem each44_any (d : Nat) (w : World) (v : Value) (l : List Ty) (h : RowOf (Lies w d) w v l) (hll : l.length ≤ 1000000000)
    (ih : ∀ (i : Nat) (hi : i < l.length) (w : World) (v : Value), Lies w d v l[i] → Calls Try.prog 39 #[v] w fun e w' => ∃ u, e = .returned u ∧ LiesIn (fun b => w.heap.size ≤ b) w' d u l[i] ∧ Below w.heap.size w w') :
    Calls Try.prog 44 #[v, fCopied] w fun e w' => ∃ u, e = .returned u ∧ RowIn (fun b => w.heap.size ≤ b) (LiesIn (fun b => w.heap.size ≤ b) w' d) w' u l ∧ Below w.heap.size w w' := by
  obtain ⟨a, c, rfl, hc, hcm, hf⟩ := h.form
  have HA := Lib.hid h
  obtain ⟨i9, hi9, hz90, hz91, hz92⟩ := info_parts Try.info31'
  clear h
  go_enter Try.func44, Try.ntmps44
  go_wp2_with fail
  go_loopw [5, 10] (fun ov iv wr => ∃ (k : Nat) (vs : List Value), k ≤ l.length ∧ iv = .int .i64 k ∧ wr.ownsRow w.heap.size 31 5 ov k (vs.flatMap cells5) ∧ Vals (LiesIn (fun b => w.heap.size ≤ b ∧ b < wr.heap.size ∧ ov.ownBlock ≠ some b) wr d) vs (l.take k) ∧ Below w.heap.size w wr) (fun _ iv _ => l.length - (intOf iv).toNat)
  case atStart => exact ⟨0, [], by omega, rfl, World.ownsRow_nil _ _ _ _, ⟨by simp, by simp⟩, Below.refl _ _⟩
  case round =>
    obtain ⟨k, vs, hk, rfl, hown, hvs, hb⟩ := hrel
    obtain ⟨ao, cap, rfl⟩ := own_shape hown
    have HB := Lib.hid hb
    have HO := Lib.hid hown
    have HV := Lib.hid hvs
    have hsz := hb.size
    clear hb hown hvs
    by_cases hlt : k < l.length
    · obtain ⟨b, o, rfl⟩ := hf (by omega)
      obtain ⟨x0, x1, x2, x3, x4, hl, hf⟩ := HA.out.get k l[k] (by simp)
      obtain ⟨f0, f1, f2, f3, f4⟩ := hf.below HB.out
      have HT := Lib.hid (show l.take (k + 1) = l.take k ++ [l[k]] by rw [List.take_add_one, List.getElem?_eq_getElem hlt]; rfl)
      have HL := Lib.hid (fun w' (hb : Below wr.heap.size wr w') => Lies.below (HB.out.trans (hb.mono hsz)) _ _ _ hl)
      obtain ⟨q0, q1, q2, q3, q4, q5, q6, q7, q8, rfl, rfl, rfl, rfl, rfl⟩ := lies_form hl
      clear hl hf
      go_wp2_with (first | (go_at_call 39; refine (ih k hlt _ _ (HL.out _ ((Below.refl _ _).alloc (Nat.le_refl _) _))).mono ?_; rintro e w2 ⟨u, rfl, hlu, hb2⟩; obtain ⟨-, hb3⟩ := alloc_known hb2; obtain ⟨c0, c1, c2, c3, c4, rfl⟩ := lies_five (LiesIn.lies _ _ _ hlu); obtain ⟨t0, t1, t2, t3, t4, t5, t6, t7, t8, rfl, rfl, rfl, rfl, rfl⟩ := lies_form (LiesIn.lies _ _ _ hlu); have HU := Lib.hid hlu; have HB2 := Lib.hid hb3; have hsz2 := hb3.size; clear hb2 hb3 hlu) | (at_builtin; refine wpList_append_lies _ rfl (.tmp 14) (.tmp 18) 23 rfl w.heap.size 31 i9 _ 5 88 Try.underlying23 hi9 hz90 hz91 hz92 rfl (by decide) _ k _ rfl ((own_below HO.out HB2.out).alloc _) ⟨w2.heap.size, 0, none⟩ 1 1 [.int .i64 t0, .string t1, .string t2, .slice t3 t4 t5, .slice t6 t7 t8] rfl rfl (World.news_of_block (cs := #[.int .i64 t0, .string t1, .string t2, .slice t3 t4 t5, .slice t6 t7 t8]) (t := 31) (fr := (0, 0)) (heap_alloc_new w2 _)) (by simp [Value.oneCell']) (by omega) (by unfold maxLen; omega) (by omega) (by simp; omega) (w2.heap.size + 1) (by simp) ?_; intro gg cp w3 hown3 hgrow hat hlt3; have HG : Hid ((w2.alloc (.cells #[.int .i64 t0, .string t1, .string t2, .slice t3 t4 t5, .slice t6 t7 t8] 31)).grownBy w3 (Value.slice ao k cap).ownBlock) := hgrow; have HW3 := Lib.hid hown3; have HAT : Hid ((Value.slice ao k cap).ownBlock = some gg ∨ gg = w2.heap.size + 1) := hat; clear hown3 hgrow hat))
      have hbw : Below w.heap.size w w3 := ((HB.out.trans (HB2.out.mono hsz)).alloc (by omega) _).grown HG.out (by simp; omega) (fun g hg => (HO.out.lt g hg).1)
      have hgo := fun g hg => HO.out.lt g hg
      have hat := HAT.out
      have hold : ∀ b, (w.heap.size ≤ b ∧ b < wr.heap.size ∧ (Value.slice ao k cap).ownBlock ≠ some b) → b < wr.heap.size → (w.heap.size ≤ b ∧ b < w3.heap.size ∧ (Value.slice (some ⟨gg, 0, none⟩) (k + 1) cp).ownBlock ≠ some b) ∧ w3.heap[b]? = wr.heap[b]? := by
        intro b hb hlt
        obtain ⟨h1, h2, h3⟩ := hb
        have e1 : w2.heap[b]? = wr.heap[b]? := HB2.out.block b hlt
        have e2 := heap_alloc_old w2 (.cells #[.int .i64 t0, .string t1, .string t2, .slice t3 t4 t5, .slice t6 t7 t8] 31) (r := b) (by omega)
        have e3 := HG.out.block b (by simp; omega) (Ne.symm h3)
        have hs3 := HG.out.size
        simp at hs3
        refine ⟨⟨h1, by omega, ?_⟩, e3.trans (e2.trans e1)⟩
        rcases hat with h | h
        · intro e; apply h3; rw [h]; exact e
        · intro e; have : gg = b := by simpa [Value.ownBlock] using e
          omega
      have hnew : ∀ b, (wr.alloc (.cells #[.int .i64 q0, .string q1, .string q2, .slice q3 q4 q5, .slice q6 q7 q8] 31)).heap.size ≤ b → b < w2.heap.size → (w.heap.size ≤ b ∧ b < w3.heap.size ∧ (Value.slice (some ⟨gg, 0, none⟩) (k + 1) cp).ownBlock ≠ some b) ∧ w3.heap[b]? = w2.heap[b]? := by
        intro b hb hlt
        simp at hb
        have hne : ∀ g, (Value.slice ao k cap).ownBlock = some g → g ≠ b := fun g hg => by have := (hgo g hg).2; omega
        have e2 := heap_alloc_old w2 (.cells #[.int .i64 t0, .string t1, .string t2, .slice t3 t4 t5, .slice t6 t7 t8] 31) (r := b) hlt
        have e3 := HG.out.block b (by simp; omega) (fun e => hne b e.symm rfl)
        have hs3 := HG.out.size
        simp at hs3
        refine ⟨⟨by omega, by omega, ?_⟩, e3.trans e2⟩
        intro e
        have : gg = b := by simpa [Value.ownBlock] using e
        rcases hat with h | h
        · exact hne gg h this
        · omega
      refine ⟨⟨k + 1, vs ++ [.agg #[.int .i64 t0, .string t1, .string t2, .slice t3 t4 t5, .slice t6 t7 t8]], by omega, by go_num, ?_, ?_, hbw⟩, by simp [intOf]; omega⟩
      · rw [List.flatMap_append]
        exact HW3.out
      · rw [HT.out]
        exact (HV.out.mono (fun _ _ h => h.kept hold)).snoc (HU.out.kept hnew)
    · have hkl : k = l.length := by omega
      go_wp2_with fail
      go_ret
      refine ⟨_, rfl, ?_, HB.out⟩
      subst hkl
      have := HV.out
      rw [List.take_length] at this
      exact RowIn.of_own HO.out (this.mono (fun _ _ h => h.kept (fun b h1 _ => ⟨h1.1, rfl⟩))) (fun _ h => h)
end Go.Proofs.Ytcelpmojhjnggaa
