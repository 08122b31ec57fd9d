/- What types names must have: the map, in plain words; the walk of infers. -/
import Derived.Test.YtcelpmojhjnggaaI08
import Derived.Maps.OwnSet
import Derived.Maps.AppendAt
import Derived.Maps.OwnOps
namespace Go.Proofs.Ytcelpmojhjnggaa
open Go Go.RowKit Go.Sort Go.Maps Go.WideMaps KindsP
set_option maxHeartbeats 2000000
set_option maxRecDepth 100000

/-! ### Types in a world that grew but for a map -/
theorem Lies.keep {w w' : World} (hk : ∀ b : Nat, (∃ (c : Array Value) (t : TypeId) (f : Nat × Nat), w.heap[b]? = some (Obj.cells c t f)) → w'.heap[b]? = w.heap[b]?) : ∀ (d : Nat) (v : Value) (t : Ty), Lies w d v t → Lies w' d v t := by
  intro d
  induction d with
  | zero => intro v t h; exact h.elim
  | succ d ih =>
    intro v t h
    obtain ⟨k, p, n, la, lr⟩ := t
    obtain ⟨va, vr, h1, h2, h3⟩ := h
    have key : ∀ (v : Value) (l : List Ty), RowOf (Lies w d) w v l → RowOf (Lies w' d) w' v l := by
      intro v l h
      obtain ⟨a, c, h1, h2, h3, h4⟩ := h
      refine ⟨a, c, h1, h2, h3, ?_⟩
      rcases h4 with h4 | ⟨b, o, h5, h6⟩
      · exact .inl h4
      · refine .inr ⟨b, o, h5, fun i x hx => ?_⟩
        obtain ⟨c0, c1, c2, c3, c4, hr, hf⟩ := h6 i x hx
        refine ⟨c0, c1, c2, c3, c4, ih _ _ hr, five_kept hf (hk b ?_)⟩
        have := hf.c0
        unfold World.cell? at this
        split at this
        · next c t f e => exact ⟨c, t, f, e⟩
        · cases this
    exact ⟨va, vr, h1, key va la h2, key vr lr h3⟩
def KeepR (w w' : World) : Prop := ∀ b : Nat, (∃ (c : Array Value) (t : TypeId) (f : Nat × Nat), w.heap[b]? = some (Obj.cells c t f)) → w'.heap[b]? = w.heap[b]?
theorem KeepR.trans {a b c : World} (h : KeepR a b) (k : KeepR b c) : KeepR a c := by
  intro i hi
  have h1 := h i hi
  exact (k i (by rw [h1]; exact hi)).trans h1
theorem RowOf.keep {w w' : World} (hk : KeepR w w') (d : Nat) (v : Value) (l : List Ty) (h : RowOf (Lies w d) w v l) : RowOf (Lies w' d) w' v l := by
  obtain ⟨a, c, h1, h2, h3, h4⟩ := h
  refine ⟨a, c, h1, h2, h3, ?_⟩
  rcases h4 with h4 | ⟨b, o, h5, h6⟩
  · exact .inl h4
  · refine .inr ⟨b, o, h5, fun i x hx => ?_⟩
    obtain ⟨c0, c1, c2, c3, c4, hr, hf⟩ := h6 i x hx
    refine ⟨c0, c1, c2, c3, c4, Lies.keep hk _ _ _ hr, five_kept hf (hk b ?_)⟩
    have := hf.c0
    unfold World.cell? at this
    split at this
    · next c t f e => exact ⟨c, t, f, e⟩
    · cases this
theorem keep_of {w w' : World} {bm : Nat} {es : Array MapEntry} {ck : Nat} (hm : w.heap[bm]? = some (Obj.map es ck)) (hg : w.grownBy w' (some bm)) : ∀ b : Nat, (∃ (c : Array Value) (t : TypeId) (f : Nat × Nat), w.heap[b]? = some (Obj.cells c t f)) → w'.heap[b]? = w.heap[b]? := by
  rintro b ⟨c, t, f, e⟩
  refine hg.block b (Array.getElem?_eq_some_iff.1 e).1 (fun h => ?_)
  obtain rfl := Option.some.inj h
  rw [hm] at e
  cases e

/-! ### The map -/
/-- a value stands for itself -/
def heldE (v : Value) : Option (DataW Value × List MemPlace) := some (.held v, [])
def kl (s : ByteArray) : Lit := .string s.data.toList
theorem kl_inj {a b : ByteArray} (h : kl a = kl b) : a = b := by
  unfold kl at h
  simp only [Lit.string.injEq] at h
  exact ByteArray.ext (Array.toList_inj.1 h)
/-- the map in block b holds just what f says; each type no deeper than dd -/
def MapIs (w : World) (b n dd : Nat) (f : ByteArray → Option Ty) : Prop :=
  ∃ D, w.ownsMap Try.prog 9 heldE b n D ∧ ∀ s : ByteArray, Maps.has D (kl s) = (f s).isSome ∧ ∀ t, f s = some t → ∃ v, (∀ z, D.atKey (kl s) z = .held v) ∧ Lies w dd v t
def upd (f : ByteArray → Option Ty) (s : ByteArray) (t : Ty) : ByteArray → Option Ty := fun x => if x = s then some t else f x
theorem law9 : Keyed Try.prog 9 := string_keyed Try.underlying9
theorem MapIs.block {w : World} {b n dd : Nat} {f : ByteArray → Option Ty} (h : MapIs w b n dd f) : ∃ (es : Array MapEntry) (ck : Nat), w.heap[b]? = some (Obj.map es ck) := by
  obtain ⟨D, ⟨es, ck, hb, _⟩, _⟩ := h
  exact ⟨es, ck, hb⟩
theorem MapIs.below {w w' : World} {b n dd : Nat} {f : ByteArray → Option Ty} (h : MapIs w b n dd f) (hb : Below w.heap.size w w') : MapIs w' b n dd f := by
  obtain ⟨D, hown, hr⟩ := h
  refine ⟨D, hown.kept (row := none) ⟨hb.os, hb.tape, hb.output, hb.size, fun k hk _ => hb.block k hk⟩ (by simp), fun s => ⟨(hr s).1, fun t ht => ?_⟩⟩
  obtain ⟨v, h1, h2⟩ := (hr s).2 t ht
  exact ⟨v, h1, Lies.below hb _ _ _ h2⟩
theorem MapIs.mono {w : World} {b n n' dd : Nat} {f : ByteArray → Option Ty} (h : MapIs w b n dd f) (hn : n ≤ n') : MapIs w b n' dd f := by
  obtain ⟨D, hown, hr⟩ := h
  exact ⟨D, hown.mono hn, hr⟩
theorem MapIs.put {w w' : World} {b n dd : Nat} {f : ByteArray → Option Ty} {D : DataW Value} (hown : w.ownsMap Try.prog 9 heldE b n D) (hr : ∀ s : ByteArray, Maps.has D (kl s) = (f s).isSome ∧ ∀ t, f s = some t → ∃ v, (∀ z, D.atKey (kl s) z = .held v) ∧ Lies w dd v t)
    (s : ByteArray) (hs : s.size ≤ maxLen) (v : Value) (t : Ty) (hv : Lies w dd v t) (hown' : w'.ownsMap Try.prog 9 heldE b (n + 1) (D.put (kl s) (.held v))) (hg : w.grownBy w' (some b)) : MapIs w' b (n + 1) dd (upd f s t) := by
  have hD : IsMap D := (World.ownsMap.tidy hown law9).isMap
  obtain ⟨es, ck, hb, _⟩ := hown
  have hkp := keep_of hb hg
  have hkey : WideAt.IsKeyLit (kl s) := law9.key (keyOf_string_mk Try.underlying9 hs)
  refine ⟨_, hown', fun x => ?_⟩
  by_cases hx : x = s
  · subst hx
    refine ⟨by rw [has_put_same hD hkey]; simp [upd], fun t' ht' => ?_⟩
    have : t' = t := by simpa [upd] using ht'.symm
    subst this
    exact ⟨v, fun z => atKey_put_same hD hkey _ z, Lies.keep hkp _ _ _ hv⟩
  · have hne : kl x ≠ kl s := fun e => hx (kl_inj e)
    refine ⟨by rw [has_put_other hne, (hr x).1]; simp [upd, hx], fun t' ht' => ?_⟩
    obtain ⟨u, h1, h2⟩ := (hr x).2 t' (by simpa [upd, hx] using ht')
    exact ⟨u, fun z => (atKey_put_other hne _ z).trans (h1 z), Lies.keep hkp _ _ _ h2⟩

/-! ### The names -/
def NamesIs (w : World) (v : Value) (zs : List ByteArray) : Prop :=
  (∃ a c, v = .slice a zs.length c ∧ zs.length ≤ 9223372036854775807 ∧ (zs = [] ∨ ∃ b o, a = some ⟨b, o, none⟩ ∧ ∀ j, j < zs.length → w.cell? ⟨b, o + j, none⟩ = some (.string (zs.getD j ByteArray.empty)))) ∧ ∀ s ∈ zs, s.size ≤ maxLen
theorem NamesIs.keep {w w' : World} {v : Value} {zs : List ByteArray} (h : NamesIs w v zs) (hk : ∀ b : Nat, (∃ (c : Array Value) (t : TypeId) (f : Nat × Nat), w.heap[b]? = some (Obj.cells c t f)) → w'.heap[b]? = w.heap[b]?) : NamesIs w' v zs := by
  obtain ⟨⟨a, c, h1, h2, h3⟩, h4⟩ := h
  refine ⟨⟨a, c, h1, h2, ?_⟩, h4⟩
  rcases h3 with h3 | ⟨b, o, h5, h6⟩
  · exact .inl h3
  · refine .inr ⟨b, o, h5, fun j hj => ?_⟩
    have := h6 j hj
    refine (World.cell?_of_block (w := w) (w' := w') (hk b ?_)).trans this
    unfold World.cell? at this
    split at this
    · next c t f e => exact ⟨c, t, f, e⟩
    · cases this
theorem below_keep {w w' : World} (hb : Below w.heap.size w w') : ∀ b : Nat, (∃ (c : Array Value) (t : TypeId) (f : Nat × Nat), w.heap[b]? = some (Obj.cells c t f)) → w'.heap[b]? = w.heap[b]? := by
  rintro b ⟨c, t, f, e⟩
  exact hb.block b (Array.getElem?_eq_some_iff.1 e).1
theorem contains_any (w : World) (v : Value) (zs : List ByteArray) (h : NamesIs w v zs) (x : ByteArray) : Calls Try.prog 65 #[v, .string x] w fun e w' => e = .returned (.bool (Lib.containsS zs x)) ∧ w' = w := by
  obtain ⟨⟨a, c, rfl, h2, h3⟩, _⟩ := h
  rcases h3 with rfl | ⟨b, o, rfl, h6⟩
  · exact Try.slices_Contains_string_empty a c x w
  · have := Try.slices_Contains_string b o zs.length c zs x w (Nat.le_refl _) h2 h6
    rwa [List.take_length] at this
theorem contains_le {w : World} {v : Value} {zs : List ByteArray} (h : NamesIs w v zs) {x : ByteArray} (hx : Lib.containsS zs x = true) : x.size ≤ maxLen := h.2 x ((Lib.containsS_iff zs x).1 hx)

/-! ### The types found -/
def Ty.kd : Ty → Int | .mk k _ _ _ _ => k
def Ty.as : Ty → List Ty | .mk _ _ _ la _ => la
def Ty.rs : Ty → List Ty | .mk _ _ _ _ lr => lr
mutual
def infT (ns : List ByteArray) : Ty → Ty → (ByteArray → Option Ty) → ByteArray → Option Ty
  | .mk k _ n la lr, a, f =>
    if ((k == 9) && Lib.containsS ns n) = true then (if (f n).isSome then f else upd f n a)
    else if ((k == Ty.kd a) && ((k == 6) || (k == 7))) = true then infL ns lr (Ty.rs a) (infL ns la (Ty.as a) f) else f
def infL (ns : List ByteArray) : List Ty → List Ty → (ByteArray → Option Ty) → ByteArray → Option Ty
  | [], _, f => f
  | _ :: _, [], f => f
  | p :: ps, a :: l, f => infL ns ps l (infT ns p a f)
end
theorem infL_at (ns : List ByteArray) (ps l : List Ty) (k : Nat) (h : k < ps.length) (h' : k < l.length) (f : ByteArray → Option Ty) : infL ns (ps.drop k) (l.drop k) f = infL ns (ps.drop (k + 1)) (l.drop (k + 1)) (infT ns ps[k] l[k] f) := by
  rw [List.drop_eq_getElem_cons h, List.drop_eq_getElem_cons h', infL]
theorem infL_end (ns : List ByteArray) (ps l : List Ty) (k : Nat) (h : ps.length ≤ k ∨ l.length ≤ k) (f : ByteArray → Option Ty) : infL ns (ps.drop k) (l.drop k) f = f := by
  rcases h with h | h
  · rw [List.drop_eq_nil_of_le h, infL]
  · rw [List.drop_eq_nil_of_le h]
    cases ps.drop k with
    | nil => rw [infL]
    | cons x xs => rw [infL]
theorem grownBy_self (w : World) (r : Option Nat) : w.grownBy w r := ⟨rfl, rfl, rfl, Nat.le_refl _, fun _ _ _ => rfl⟩
theorem row_cells {w : World} {b o : Nat} {c0 c1 c2 c3 c4 : Value} (h : Five w b o c0 c1 c2 c3 c4) : ∃ (c : Array Value) (t : TypeId) (f : Nat × Nat), w.heap[b]? = some (Obj.cells c t f) := by
  have := h.c0
  unfold World.cell? at this
  split at this
  · next c t f e => exact ⟨c, t, f, e⟩
  · cases this
theorem zero31 (w : World) : (zeroValue 31).run Try.prog w = .ok (.agg #[.int .i64 0, .string ⟨#[]⟩, .string ⟨#[]⟩, .slice none 0 0, .slice none 0 0]) w := by kernel_rfl

def InfersAt (d : Nat) : Prop := ∀ (w : World) (b n dd d' : Nat) (f : ByteArray → Option Ty) (vn vp va : Value) (ns : List ByteArray) (ps l : List Ty), MapIs w b n dd f → NamesIs w vn ns → RowOf (Lies w d) w vp ps → RowOf (Lies w d') w va l → d' ≤ dd → n + sizL ps ≤ 1000000000 →
    Calls Try.prog 38 #[.map (some b), vn, vp, va] w fun e w' => (∃ u, e = .returned u) ∧ MapIs w' b (n + sizL ps) dd (infL ns ps l f) ∧ w.grownBy w' (some b)
theorem siz_drop (l : List Ty) (k : Nat) (h : k < l.length) : sizL (l.drop k) = sizT l[k] + sizL (l.drop (k + 1)) := by rw [List.drop_eq_getElem_cons h, sizL]
theorem lies_at {w : World} {d : Nat} {x0 x1 x2 x3 x4 : Value} {t : Ty} (h : Lies w d (.agg #[x0, x1, x2, x3, x4]) t) :
    ∃ e k p n a1 n1 c1 a2 n2 c2 la lr, d = e + 1 ∧ t = .mk k p n la lr ∧ x0 = .int .i64 k ∧ x1 = .string p ∧ x2 = .string n ∧ x3 = .slice a1 n1 c1 ∧ x4 = .slice a2 n2 c2 ∧ RowOf (Lies w e) w x3 la ∧ RowOf (Lies w e) w x4 lr := by
  cases d with
  | zero => exact h.elim
  | succ e =>
  obtain ⟨k, p, n, la, lr⟩ := t
  obtain ⟨va, vr, h1, h2, h3⟩ := h
  simp only [Value.agg.injEq, Array.mk.injEq, List.cons.injEq, and_true] at h1
  obtain ⟨rfl, rfl, rfl, rfl, rfl⟩ := h1
  obtain ⟨a1, c1, e1, _⟩ := h2.form
  obtain ⟨a2, c2, e2, _⟩ := h3.form
  exact ⟨e, k, p, n, a1, _, c1, a2, _, c2, la, lr, rfl, rfl, rfl, rfl, rfl, e1, e2, h2, h3⟩

theorem infers_step (d : Nat) (ih : ∀ e, e < d → InfersAt e) : InfersAt d := by
  intro w b n dd d' f vn vp va ns ps l hm hn hp ha hdd hsz
  obtain ⟨ap, cp, rfl, hcp, hcmp, hpf⟩ := hp.form
  obtain ⟨aa, ca, rfl, hca, hcma, haf⟩ := ha.form
  have hbp := Nat.le_trans hcp hcmp
  have hba := Nat.le_trans hca hcma
  unfold maxLen at hbp hba
  have HP := Lib.hid hp
  have HA := Lib.hid ha
  have HN := Lib.hid hn
  have HM := Lib.hid hm
  obtain ⟨es0, ck0, hblk⟩ := hm.block
  have HBK := Lib.hid hblk
  clear hp ha hn hm hblk
  go_enter Try.func38, Try.ntmps38
  go_wp2_with fail
  go_loopw [18] (fun iv wr => ∃ (k nk : Nat) (fk : ByteArray → Option Ty), (k ≤ ps.length ∧ k ≤ l.length) ∧ iv = .int .i64 k ∧ nk + sizL (ps.drop k) ≤ n + sizL ps ∧ MapIs wr b nk dd fk ∧ w.grownBy wr (some b) ∧ Hid (infL ns ps l f = infL ns (ps.drop k) (l.drop k) fk)) (fun iv _ => ps.length - (intOf iv).toNat)
  case atStart => exact ⟨0, n, f, ⟨by omega, by omega⟩, rfl, by simp, HM.out, grownBy_self _ _, rfl⟩
  case round =>
    obtain ⟨k, nk, fk, ⟨hk1, hk2⟩, rfl, hnk, hmk, hg, H⟩ := hrel
    have HG := Lib.hid hg
    have HMK := Lib.hid hmk
    have HKP := Lib.hid (keep_of HBK.out hg)
    clear hg hmk
    by_cases hlt : k < ps.length ∧ k < l.length
    · obtain ⟨hlt1, hlt2⟩ := hlt
      obtain ⟨bp, op, rfl⟩ := hpf (by omega)
      obtain ⟨ba, oa, rfl⟩ := haf (by omega)
      obtain ⟨x0, x1, x2, x3, x4, hl, hf⟩ := HP.out.get k ps[k] (by simp)
      obtain ⟨y0, y1, y2, y3, y4, hl', hf'⟩ := HA.out.get k l[k] (by simp)
      obtain ⟨f0, f1, f2, f3, f4⟩ := five_kept hf (HKP.out bp (row_cells hf))
      obtain ⟨g0, g1, g2, g3, g4⟩ := five_kept hf' (HKP.out ba (row_cells hf'))
      have hlb := World.block_lt_of_cell? wr _ f0
      have hla := World.block_lt_of_cell? wr _ g0
      simp only at hlb hla
      have hLq := Lib.hid hl'
      obtain ⟨e, kp, pp, np, i0, i1, i2, i3, i4, i5, lap, lrp, hd, hpk, rfl, rfl, rfl, rfl, rfl, hra, hrr⟩ := lies_at hl
      obtain ⟨e', kq, pq, nq, j0, j1, j2, j3, j4, j5, laq, lrq, hd', hqk, rfl, rfl, rfl, rfl, rfl, hsa, hsr⟩ := lies_at hl'
      clear hl hl' hf hf'
      go_upto_region 3 with fail
      go_region
      · obtain ⟨wx, hwx⟩ : ∃ wx, wx = ((wr.alloc (.cells #[.int .i64 kp, .string pp, .string np, .slice i0 i1 i2, .slice i3 i4 i5] 31)).alloc (.cells #[.int .i64 kq, .string pq, .string nq, .slice j0 j1 j2, .slice j3 j4 j5] 31)).drew := ⟨_, rfl⟩
        have hbx : Below wr.heap.size wr wx := by rw [hwx]; exact (alloc2_below _ _ _).drew
        obtain ⟨hka, hkb⟩ : wx.heap[wr.heap.size]? = some (.cells #[.int .i64 kp, .string pp, .string np, .slice i0 i1 i2, .slice i3 i4 i5] 31) ∧ wx.heap[wr.heap.size + 1]? = some (.cells #[.int .i64 kq, .string pq, .string nq, .slice j0 j1 j2, .slice j3 j4 j5] 31) := by
          have := alloc_known2 (w := wr) (w2 := wx) (by rw [hwx]; exact (Below.refl _ _).drew)
          exact ⟨this.1, this.2.1⟩
        have hsx : wx.heap.size = wr.heap.size + 2 := by rw [hwx]; show ((wr.alloc (.cells #[.int .i64 kp, .string pp, .string np, .slice i0 i1 i2, .slice i3 i4 i5] 31)).alloc (.cells #[.int .i64 kq, .string pq, .string nq, .slice j0 j1 j2, .slice j3 j4 j5] 31)).heap.size = _; simp
        have c0 : wx.cell? ⟨wr.heap.size, 0, none⟩ = some (.int .i64 kp) := by simp [World.cell?, hka]
        have e0 : wx.cell? ⟨wr.heap.size + 1, 0, none⟩ = some (.int .i64 kq) := by simp [World.cell?, hkb]
        have c1 : wx.cell? ⟨wr.heap.size, 1, none⟩ = some (.string pp) := by simp [World.cell?, hka]
        have e1 : wx.cell? ⟨wr.heap.size + 1, 1, none⟩ = some (.string pq) := by simp [World.cell?, hkb]
        have c2 : wx.cell? ⟨wr.heap.size, 2, none⟩ = some (.string np) := by simp [World.cell?, hka]
        have e2 : wx.cell? ⟨wr.heap.size + 1, 2, none⟩ = some (.string nq) := by simp [World.cell?, hkb]
        have c3 : wx.cell? ⟨wr.heap.size, 3, none⟩ = some (.slice i0 i1 i2) := by simp [World.cell?, hka]
        have e3 : wx.cell? ⟨wr.heap.size + 1, 3, none⟩ = some (.slice j0 j1 j2) := by simp [World.cell?, hkb]
        have c4 : wx.cell? ⟨wr.heap.size, 4, none⟩ = some (.slice i3 i4 i5) := by simp [World.cell?, hka]
        have e4 : wx.cell? ⟨wr.heap.size + 1, 4, none⟩ = some (.slice j3 j4 j5) := by simp [World.cell?, hkb]
        have HKPX := hka
        have HKQX := hkb
        have HMX := Lib.hid (HMK.out.below hbx)
        have HNX := Lib.hid ((HN.out.keep HKP.out).keep (below_keep hbx))
        have HKP' := Lib.hid HKPX
        have HKQ' := Lib.hid HKQX
        have KRW : KeepR w wx := KeepR.trans HKP.out (below_keep hbx)
        have HGX := Lib.hid (HG.out.trans (⟨hbx.os, hbx.tape, hbx.output, hbx.size, fun j hj _ => hbx.block j hj⟩ : wr.grownBy wx (some b)))
        have HQX := Lib.hid (Lies.below hbx _ _ _ (Lies.keep HKP.out _ _ _ hLq.out))
        rw [← hwx]
        clear hwx hka hkb hbx HKPX HKQX
        have HSD := Lib.hid (show sizL (ps.drop k) = sizT ps[k] + sizL (ps.drop (k + 1)) ∧ 1 ≤ sizT ps[k] from ⟨siz_drop ps k hlt1, siz_pos _⟩)
        by_cases hc : ((kp == 9) && Lib.containsS ns np) = true
        · have h9 : (kp == 9) = true := by cases h : (kp == 9) <;> simp [h] at hc ⊢
          have hcn : Lib.containsS ns np = true := by cases h : Lib.containsS ns np <;> simp [h] at hc ⊢
          have hnl := contains_le HN.out hcn
          obtain ⟨D, hown, hrd⟩ := HMX.out
          have HO := Lib.hid hown
          have HRD := Lib.hid hrd
          have hhas := (hrd np).1
          cases hfn : (fk np).isSome
          · have HS := Lib.hid (show infT ns ps[k] l[k] fk = upd fk np l[k] by rw [hpk, infT, if_pos hc, hfn]; rfl)
            rw [hfn] at hhas
            have hat := atKey_of_not_has hhas (.held (.agg #[.int .i64 0, .string ⟨#[]⟩, .string ⟨#[]⟩, .slice none 0 0, .slice none 0 0]))
            have HAT := Lib.hid hat
            have HHAS := Lib.hid hhas
            clear hown hrd hfn hat hhas hc
            go_wp2_with (first | (go_at_call 65; refine (contains_any _ _ _ HNX.out _).mono ?_; rintro e w5 ⟨rfl, hw5⟩; obtain rfl := hw5.symm) | (at_lookup; refine wpList_lookup_own_ok _ rfl _ _ 59 rfl 9 31 law9 Try.underlying59 heldE (zero31 _) (.held (.agg #[.int .i64 0, .string ⟨#[]⟩, .string ⟨#[]⟩, .slice none 0 0, .slice none 0 0])) [] rfl b nk D rfl HO.out _ (kl np) rfl (keyOf_string_mk Try.underlying9 hnl) ?_; intro v ps' hv; obtain rfl : v = (.agg #[.int .i64 0, .string ⟨#[]⟩, .string ⟨#[]⟩, .slice none 0 0, .slice none 0 0]) := (by rw [HAT.out] at hv; simp [heldE] at hv; exact hv.1); rw [HHAS.out]; clear hv) | (at_mapUpdate; refine wpList_mapUpdate_own _ rfl _ _ _ 59 rfl 9 31 law9 Try.underlying59 heldE b nk D rfl (HO.out.alloc _) (by unfold maxLen; omega) _ (.agg #[.int .i64 kq, .string pq, .string nq, .slice j0 j1 j2, .slice j3 j4 j5]) (kl np) rfl rfl (keyOf_string_mk Try.underlying9 hnl) (.held (.agg #[.int .i64 kq, .string pq, .string nq, .slice j0 j1 j2, .slice j3 j4 j5])) [] rfl ?_; intro w6 hown6 hgrow6; have HO6 := Lib.hid hown6; have HG6 := Lib.hid hgrow6; clear hown6 hgrow6))
            refine ⟨⟨k + 1, nk + 1, upd fk np l[k], ⟨by omega, by omega⟩, by go_num, by have := HSD.out; omega, ?_, HGX.out.trans ((World.grownBy_alloc _ _ _).trans HG6.out), ?_⟩, by simp [intOf]; omega⟩
            · have hbz : Below wx.heap.size wx (wx.alloc (.cells #[.int .i64 0, .string ⟨#[]⟩, .string ⟨#[]⟩, .slice none 0 0, .slice none 0 0] 31)) := (Below.refl _ _).alloc (Nat.le_refl _) _
              exact MapIs.put (HO.out.alloc _) (fun s => ⟨(HRD.out s).1, fun t ht => by obtain ⟨u, g1, g2⟩ := (HRD.out s).2 t ht; exact ⟨u, g1, Lies.below hbz _ _ _ g2⟩⟩) np hnl _ l[k] (Lies.below hbz _ _ _ (HQX.out.le hdd)) HO6.out HG6.out
            · show _ = _
              rw [H.out, infL_at ns ps l k hlt1 hlt2, HS.out]
          · have HS := Lib.hid (show infT ns ps[k] l[k] fk = fk by rw [hpk, infT, if_pos hc, hfn]; rfl)
            rw [hfn] at hhas
            obtain ⟨t0, ht0⟩ := Option.isSome_iff_exists.1 hfn
            obtain ⟨v0, hat0, hlv0⟩ := (hrd np).2 t0 ht0
            obtain ⟨z0, z1, z2, z3, z4, rfl⟩ := lies_five hlv0
            obtain ⟨o0, o1, o2, o3, o4, o5, o6, o7, o8, rfl, rfl, rfl, rfl, rfl⟩ := lies_form hlv0
            have HAT := Lib.hid (hat0 (.held (.agg #[.int .i64 0, .string ⟨#[]⟩, .string ⟨#[]⟩, .slice none 0 0, .slice none 0 0])))
            have HHAS := Lib.hid hhas
            clear hown hrd hfn hat0 hlv0 ht0 hhas hc
            go_wp2_with (first | (go_at_call 65; refine (contains_any _ _ _ HNX.out _).mono ?_; rintro e w5 ⟨rfl, hw5⟩; obtain rfl := hw5.symm) | (at_lookup; refine wpList_lookup_own_ok _ rfl _ _ 59 rfl 9 31 law9 Try.underlying59 heldE (zero31 _) (.held (.agg #[.int .i64 0, .string ⟨#[]⟩, .string ⟨#[]⟩, .slice none 0 0, .slice none 0 0])) [] rfl b nk D rfl HO.out _ (kl np) rfl (keyOf_string_mk Try.underlying9 hnl) ?_; intro v ps' hv; obtain rfl : v = .agg #[.int .i64 o0, .string o1, .string o2, .slice o3 o4 o5, .slice o6 o7 o8] := (by rw [HAT.out] at hv; simp [heldE] at hv; exact hv.1); rw [HHAS.out]; clear hv))
            refine ⟨⟨k + 1, nk, fk, ⟨by omega, by omega⟩, by go_num, by have := HSD.out; omega, HMX.out.below ((Below.refl _ _).alloc (Nat.le_refl _) _), HGX.out.trans (World.grownBy_alloc _ _ _), ?_⟩, by simp [intOf]; omega⟩
            show _ = _
            rw [H.out, infL_at ns ps l k hlt1 hlt2, HS.out]
        · by_cases hrc : ((kp == kq) && ((kp == 6) || (kp == 7))) = true
          · have hkk : kp = kq := by cases h : (kp == kq) <;> simp [h] at hrc; exact eq_of_beq h
            have h67 : kp = 6 ∨ kp = 7 := by cases h : (kp == 6) <;> cases h' : (kp == 7) <;> simp [h, h'] at hrc <;> first | exact .inl (eq_of_beq h) | exact .inr (eq_of_beq h')
            have HS := Lib.hid (show infT ns ps[k] l[k] fk = infL ns lrp lrq (infL ns lap laq fk) by rw [hpk, hqk, infT, if_neg hc, if_pos (show ((kp == Ty.kd (.mk kq pq nq laq lrq)) && ((kp == 6) || (kp == 7))) = true from hrc)]; rfl)
            have HZ := Lib.hid (show sizT ps[k] = 1 + sizL lap + sizL lrp by rw [hpk, sizT])
            have hIH := Lib.hid (ih e (by omega))
            have RA := Lib.hid (fun W (h1 : KeepR w W) => RowOf.keep h1 e _ _ hra)
            have RR := Lib.hid (fun W (h1 : KeepR w W) => RowOf.keep h1 e _ _ hrr)
            have SA := Lib.hid (fun W (h1 : KeepR w W) => RowOf.keep h1 e' _ _ hsa)
            have SR := Lib.hid (fun W (h1 : KeepR w W) => RowOf.keep h1 e' _ _ hsr)
            have hde : e' ≤ dd := by omega
            have KX := Lib.hid (show KeepR w wx from KRW)
            clear hrc hc ih hra hrr hsa hsr
            subst hkk
            have key : n + sizL ps ≤ 1000000000 ∧ nk + sizL (ps.drop k) ≤ n + sizL ps := ⟨hsz, hnk⟩
            have HKEY := Lib.hid key
            clear key
            rcases h67 with rfl | rfl
            all_goals
              go_wp2_with (first | (go_at_call_of 38 (Value.slice i0 i1 i2); refine (hIH.out _ b nk dd e' fk vn _ _ ns lap laq ?_ ?_ ?_ ?_ ?_ ?_).mono ?_; exact HMX.out; exact HNX.out; exact RA.out _ KX.out; exact SA.out _ KX.out; exact hde; (have z1 := HZ.out; have z2 := HSD.out; have z3 := HKEY.out; omega); rintro r w7 ⟨⟨u7, rfl⟩, hm7, hg7⟩; refine Hid.out ?_))
              refine Lib.hid ?_
              obtain ⟨es1, ck1, hb1⟩ := HMX.out.block
              have hk7 := keep_of hb1 hg7
              have c4 := (World.cell?_of_block (w := wx) (w' := w7) (a := ⟨wr.heap.size, 4, none⟩) (hk7 (wr.heap.size) ⟨_, _, _, HKP'.out⟩)).trans c4
              have e4 := (World.cell?_of_block (w := wx) (w' := w7) (a := ⟨wr.heap.size + 1, 4, none⟩) (hk7 (wr.heap.size + 1) ⟨_, _, _, HKQ'.out⟩)).trans e4
              have HM7 := Lib.hid hm7
              have HG7 := Lib.hid hg7
              have HN7 := Lib.hid (HNX.out.keep hk7)
              have K7 := Lib.hid (KX.out.trans hk7)
              clear hm7 hg7 hk7 hb1
              go_wp2_with (first | (go_at_call_of 38 (Value.slice i3 i4 i5); refine (hIH.out _ b (nk + sizL lap) dd e' (infL ns lap laq fk) vn _ _ ns lrp lrq ?_ ?_ ?_ ?_ ?_ ?_).mono ?_; exact HM7.out; exact HN7.out; exact RR.out _ K7.out; exact SR.out _ K7.out; exact hde; (have z1 := HZ.out; have z2 := HSD.out; have z3 := HKEY.out; omega); rintro r w8 ⟨⟨u8', rfl⟩, hm8, hg8⟩))
              refine ⟨⟨k + 1, nk + sizL lap + sizL lrp, infL ns lrp lrq (infL ns lap laq fk), ⟨by omega, by omega⟩, by go_num, by have z1 := HZ.out; have z2 := HSD.out; have z3 := HKEY.out; omega, hm8, HGX.out.trans (HG7.out.trans hg8), ?_⟩, by simp [intOf]; omega⟩
              show _ = _
              rw [H.out, infL_at ns ps l k hlt1 hlt2, HS.out]
          · have HS := Lib.hid (show infT ns ps[k] l[k] fk = fk by rw [hpk, hqk, infT, if_neg hc, if_neg (show ¬ ((kp == Ty.kd (.mk kq pq nq laq lrq)) && ((kp == 6) || (kp == 7))) = true from hrc)])
            cases h9 : (kp == 9) <;> cases hcn : Lib.containsS ns np <;> cases eK : (kp == kq) <;> cases e6 : (kp == 6) <;> cases e7 : (kp == 7)
            all_goals (first | (exfalso; revert hc hrc; rw [h9, hcn, eK, e6, e7]; simp; done) | skip)
            all_goals
              clear hc hrc
              go_wp2_with (first | (go_at_call 65; refine (contains_any _ _ _ HNX.out _).mono ?_; rintro r w5 ⟨rfl, hw5⟩; obtain rfl := hw5.symm))
              refine ⟨⟨k + 1, nk, fk, ⟨by omega, by omega⟩, by go_num, by have := HSD.out; omega, HMX.out, HGX.out, ?_⟩, by simp [intOf]; omega⟩
              show _ = _
              rw [H.out, infL_at ns ps l k hlt1 hlt2, HS.out]
      · obtain ⟨wx, hwx⟩ : ∃ wx, wx = ((wr.alloc (.cells #[.int .i64 kq, .string pq, .string nq, .slice j0 j1 j2, .slice j3 j4 j5] 31)).alloc (.cells #[.int .i64 kp, .string pp, .string np, .slice i0 i1 i2, .slice i3 i4 i5] 31)).drew := ⟨_, rfl⟩
        have hbx : Below wr.heap.size wr wx := by rw [hwx]; exact (alloc2_below _ _ _).drew
        obtain ⟨hka, hkb⟩ : wx.heap[wr.heap.size]? = some (.cells #[.int .i64 kq, .string pq, .string nq, .slice j0 j1 j2, .slice j3 j4 j5] 31) ∧ wx.heap[wr.heap.size + 1]? = some (.cells #[.int .i64 kp, .string pp, .string np, .slice i0 i1 i2, .slice i3 i4 i5] 31) := by
          have := alloc_known2 (w := wr) (w2 := wx) (by rw [hwx]; exact (Below.refl _ _).drew)
          exact ⟨this.1, this.2.1⟩
        have hsx : wx.heap.size = wr.heap.size + 2 := by rw [hwx]; show ((wr.alloc (.cells #[.int .i64 kq, .string pq, .string nq, .slice j0 j1 j2, .slice j3 j4 j5] 31)).alloc (.cells #[.int .i64 kp, .string pp, .string np, .slice i0 i1 i2, .slice i3 i4 i5] 31)).heap.size = _; simp
        have c0 : wx.cell? ⟨wr.heap.size + 1, 0, none⟩ = some (.int .i64 kp) := by simp [World.cell?, hkb]
        have e0 : wx.cell? ⟨wr.heap.size, 0, none⟩ = some (.int .i64 kq) := by simp [World.cell?, hka]
        have c1 : wx.cell? ⟨wr.heap.size + 1, 1, none⟩ = some (.string pp) := by simp [World.cell?, hkb]
        have e1 : wx.cell? ⟨wr.heap.size, 1, none⟩ = some (.string pq) := by simp [World.cell?, hka]
        have c2 : wx.cell? ⟨wr.heap.size + 1, 2, none⟩ = some (.string np) := by simp [World.cell?, hkb]
        have e2 : wx.cell? ⟨wr.heap.size, 2, none⟩ = some (.string nq) := by simp [World.cell?, hka]
        have c3 : wx.cell? ⟨wr.heap.size + 1, 3, none⟩ = some (.slice i0 i1 i2) := by simp [World.cell?, hkb]
        have e3 : wx.cell? ⟨wr.heap.size, 3, none⟩ = some (.slice j0 j1 j2) := by simp [World.cell?, hka]
        have c4 : wx.cell? ⟨wr.heap.size + 1, 4, none⟩ = some (.slice i3 i4 i5) := by simp [World.cell?, hkb]
        have e4 : wx.cell? ⟨wr.heap.size, 4, none⟩ = some (.slice j3 j4 j5) := by simp [World.cell?, hka]
        have HKPX := hkb
        have HKQX := hka
        have HMX := Lib.hid (HMK.out.below hbx)
        have HNX := Lib.hid ((HN.out.keep HKP.out).keep (below_keep hbx))
        have HKP' := Lib.hid HKPX
        have HKQ' := Lib.hid HKQX
        have KRW : KeepR w wx := KeepR.trans HKP.out (below_keep hbx)
        have HGX := Lib.hid (HG.out.trans (⟨hbx.os, hbx.tape, hbx.output, hbx.size, fun j hj _ => hbx.block j hj⟩ : wr.grownBy wx (some b)))
        have HQX := Lib.hid (Lies.below hbx _ _ _ (Lies.keep HKP.out _ _ _ hLq.out))
        rw [← hwx]
        clear hwx hka hkb hbx HKPX HKQX
        have HSD := Lib.hid (show sizL (ps.drop k) = sizT ps[k] + sizL (ps.drop (k + 1)) ∧ 1 ≤ sizT ps[k] from ⟨siz_drop ps k hlt1, siz_pos _⟩)
        by_cases hc : ((kp == 9) && Lib.containsS ns np) = true
        · have h9 : (kp == 9) = true := by cases h : (kp == 9) <;> simp [h] at hc ⊢
          have hcn : Lib.containsS ns np = true := by cases h : Lib.containsS ns np <;> simp [h] at hc ⊢
          have hnl := contains_le HN.out hcn
          obtain ⟨D, hown, hrd⟩ := HMX.out
          have HO := Lib.hid hown
          have HRD := Lib.hid hrd
          have hhas := (hrd np).1
          cases hfn : (fk np).isSome
          · have HS := Lib.hid (show infT ns ps[k] l[k] fk = upd fk np l[k] by rw [hpk, infT, if_pos hc, hfn]; rfl)
            rw [hfn] at hhas
            have hat := atKey_of_not_has hhas (.held (.agg #[.int .i64 0, .string ⟨#[]⟩, .string ⟨#[]⟩, .slice none 0 0, .slice none 0 0]))
            have HAT := Lib.hid hat
            have HHAS := Lib.hid hhas
            clear hown hrd hfn hat hhas hc
            go_wp2_with (first | (go_at_call 65; refine (contains_any _ _ _ HNX.out _).mono ?_; rintro e w5 ⟨rfl, hw5⟩; obtain rfl := hw5.symm) | (at_lookup; refine wpList_lookup_own_ok _ rfl _ _ 59 rfl 9 31 law9 Try.underlying59 heldE (zero31 _) (.held (.agg #[.int .i64 0, .string ⟨#[]⟩, .string ⟨#[]⟩, .slice none 0 0, .slice none 0 0])) [] rfl b nk D rfl HO.out _ (kl np) rfl (keyOf_string_mk Try.underlying9 hnl) ?_; intro v ps' hv; obtain rfl : v = (.agg #[.int .i64 0, .string ⟨#[]⟩, .string ⟨#[]⟩, .slice none 0 0, .slice none 0 0]) := (by rw [HAT.out] at hv; simp [heldE] at hv; exact hv.1); rw [HHAS.out]; clear hv) | (at_mapUpdate; refine wpList_mapUpdate_own _ rfl _ _ _ 59 rfl 9 31 law9 Try.underlying59 heldE b nk D rfl (HO.out.alloc _) (by unfold maxLen; omega) _ (.agg #[.int .i64 kq, .string pq, .string nq, .slice j0 j1 j2, .slice j3 j4 j5]) (kl np) rfl rfl (keyOf_string_mk Try.underlying9 hnl) (.held (.agg #[.int .i64 kq, .string pq, .string nq, .slice j0 j1 j2, .slice j3 j4 j5])) [] rfl ?_; intro w6 hown6 hgrow6; have HO6 := Lib.hid hown6; have HG6 := Lib.hid hgrow6; clear hown6 hgrow6))
            refine ⟨⟨k + 1, nk + 1, upd fk np l[k], ⟨by omega, by omega⟩, by go_num, by have := HSD.out; omega, ?_, HGX.out.trans ((World.grownBy_alloc _ _ _).trans HG6.out), ?_⟩, by simp [intOf]; omega⟩
            · have hbz : Below wx.heap.size wx (wx.alloc (.cells #[.int .i64 0, .string ⟨#[]⟩, .string ⟨#[]⟩, .slice none 0 0, .slice none 0 0] 31)) := (Below.refl _ _).alloc (Nat.le_refl _) _
              exact MapIs.put (HO.out.alloc _) (fun s => ⟨(HRD.out s).1, fun t ht => by obtain ⟨u, g1, g2⟩ := (HRD.out s).2 t ht; exact ⟨u, g1, Lies.below hbz _ _ _ g2⟩⟩) np hnl _ l[k] (Lies.below hbz _ _ _ (HQX.out.le hdd)) HO6.out HG6.out
            · show _ = _
              rw [H.out, infL_at ns ps l k hlt1 hlt2, HS.out]
          · have HS := Lib.hid (show infT ns ps[k] l[k] fk = fk by rw [hpk, infT, if_pos hc, hfn]; rfl)
            rw [hfn] at hhas
            obtain ⟨t0, ht0⟩ := Option.isSome_iff_exists.1 hfn
            obtain ⟨v0, hat0, hlv0⟩ := (hrd np).2 t0 ht0
            obtain ⟨z0, z1, z2, z3, z4, rfl⟩ := lies_five hlv0
            obtain ⟨o0, o1, o2, o3, o4, o5, o6, o7, o8, rfl, rfl, rfl, rfl, rfl⟩ := lies_form hlv0
            have HAT := Lib.hid (hat0 (.held (.agg #[.int .i64 0, .string ⟨#[]⟩, .string ⟨#[]⟩, .slice none 0 0, .slice none 0 0])))
            have HHAS := Lib.hid hhas
            clear hown hrd hfn hat0 hlv0 ht0 hhas hc
            go_wp2_with (first | (go_at_call 65; refine (contains_any _ _ _ HNX.out _).mono ?_; rintro e w5 ⟨rfl, hw5⟩; obtain rfl := hw5.symm) | (at_lookup; refine wpList_lookup_own_ok _ rfl _ _ 59 rfl 9 31 law9 Try.underlying59 heldE (zero31 _) (.held (.agg #[.int .i64 0, .string ⟨#[]⟩, .string ⟨#[]⟩, .slice none 0 0, .slice none 0 0])) [] rfl b nk D rfl HO.out _ (kl np) rfl (keyOf_string_mk Try.underlying9 hnl) ?_; intro v ps' hv; obtain rfl : v = .agg #[.int .i64 o0, .string o1, .string o2, .slice o3 o4 o5, .slice o6 o7 o8] := (by rw [HAT.out] at hv; simp [heldE] at hv; exact hv.1); rw [HHAS.out]; clear hv))
            refine ⟨⟨k + 1, nk, fk, ⟨by omega, by omega⟩, by go_num, by have := HSD.out; omega, HMX.out.below ((Below.refl _ _).alloc (Nat.le_refl _) _), HGX.out.trans (World.grownBy_alloc _ _ _), ?_⟩, by simp [intOf]; omega⟩
            show _ = _
            rw [H.out, infL_at ns ps l k hlt1 hlt2, HS.out]
        · by_cases hrc : ((kp == kq) && ((kp == 6) || (kp == 7))) = true
          · have hkk : kp = kq := by cases h : (kp == kq) <;> simp [h] at hrc; exact eq_of_beq h
            have h67 : kp = 6 ∨ kp = 7 := by cases h : (kp == 6) <;> cases h' : (kp == 7) <;> simp [h, h'] at hrc <;> first | exact .inl (eq_of_beq h) | exact .inr (eq_of_beq h')
            have HS := Lib.hid (show infT ns ps[k] l[k] fk = infL ns lrp lrq (infL ns lap laq fk) by rw [hpk, hqk, infT, if_neg hc, if_pos (show ((kp == Ty.kd (.mk kq pq nq laq lrq)) && ((kp == 6) || (kp == 7))) = true from hrc)]; rfl)
            have HZ := Lib.hid (show sizT ps[k] = 1 + sizL lap + sizL lrp by rw [hpk, sizT])
            have hIH := Lib.hid (ih e (by omega))
            have RA := Lib.hid (fun W (h1 : KeepR w W) => RowOf.keep h1 e _ _ hra)
            have RR := Lib.hid (fun W (h1 : KeepR w W) => RowOf.keep h1 e _ _ hrr)
            have SA := Lib.hid (fun W (h1 : KeepR w W) => RowOf.keep h1 e' _ _ hsa)
            have SR := Lib.hid (fun W (h1 : KeepR w W) => RowOf.keep h1 e' _ _ hsr)
            have hde : e' ≤ dd := by omega
            have KX := Lib.hid (show KeepR w wx from KRW)
            clear hrc hc ih hra hrr hsa hsr
            subst hkk
            have key : n + sizL ps ≤ 1000000000 ∧ nk + sizL (ps.drop k) ≤ n + sizL ps := ⟨hsz, hnk⟩
            have HKEY := Lib.hid key
            clear key
            rcases h67 with rfl | rfl
            all_goals
              go_wp2_with (first | (go_at_call_of 38 (Value.slice i0 i1 i2); refine (hIH.out _ b nk dd e' fk vn _ _ ns lap laq ?_ ?_ ?_ ?_ ?_ ?_).mono ?_; exact HMX.out; exact HNX.out; exact RA.out _ KX.out; exact SA.out _ KX.out; exact hde; (have z1 := HZ.out; have z2 := HSD.out; have z3 := HKEY.out; omega); rintro r w7 ⟨⟨u7, rfl⟩, hm7, hg7⟩; refine Hid.out ?_))
              refine Lib.hid ?_
              obtain ⟨es1, ck1, hb1⟩ := HMX.out.block
              have hk7 := keep_of hb1 hg7
              have c4 := (World.cell?_of_block (w := wx) (w' := w7) (a := ⟨wr.heap.size + 1, 4, none⟩) (hk7 (wr.heap.size + 1) ⟨_, _, _, HKP'.out⟩)).trans c4
              have e4 := (World.cell?_of_block (w := wx) (w' := w7) (a := ⟨wr.heap.size, 4, none⟩) (hk7 (wr.heap.size) ⟨_, _, _, HKQ'.out⟩)).trans e4
              have HM7 := Lib.hid hm7
              have HG7 := Lib.hid hg7
              have HN7 := Lib.hid (HNX.out.keep hk7)
              have K7 := Lib.hid (KX.out.trans hk7)
              clear hm7 hg7 hk7 hb1
              go_wp2_with (first | (go_at_call_of 38 (Value.slice i3 i4 i5); refine (hIH.out _ b (nk + sizL lap) dd e' (infL ns lap laq fk) vn _ _ ns lrp lrq ?_ ?_ ?_ ?_ ?_ ?_).mono ?_; exact HM7.out; exact HN7.out; exact RR.out _ K7.out; exact SR.out _ K7.out; exact hde; (have z1 := HZ.out; have z2 := HSD.out; have z3 := HKEY.out; omega); rintro r w8 ⟨⟨u8', rfl⟩, hm8, hg8⟩))
              refine ⟨⟨k + 1, nk + sizL lap + sizL lrp, infL ns lrp lrq (infL ns lap laq fk), ⟨by omega, by omega⟩, by go_num, by have z1 := HZ.out; have z2 := HSD.out; have z3 := HKEY.out; omega, hm8, HGX.out.trans (HG7.out.trans hg8), ?_⟩, by simp [intOf]; omega⟩
              show _ = _
              rw [H.out, infL_at ns ps l k hlt1 hlt2, HS.out]
          · have HS := Lib.hid (show infT ns ps[k] l[k] fk = fk by rw [hpk, hqk, infT, if_neg hc, if_neg (show ¬ ((kp == Ty.kd (.mk kq pq nq laq lrq)) && ((kp == 6) || (kp == 7))) = true from hrc)])
            cases h9 : (kp == 9) <;> cases hcn : Lib.containsS ns np <;> cases eK : (kp == kq) <;> cases e6 : (kp == 6) <;> cases e7 : (kp == 7)
            all_goals (first | (exfalso; revert hc hrc; rw [h9, hcn, eK, e6, e7]; simp; done) | skip)
            all_goals
              clear hc hrc
              go_wp2_with (first | (go_at_call 65; refine (contains_any _ _ _ HNX.out _).mono ?_; rintro r w5 ⟨rfl, hw5⟩; obtain rfl := hw5.symm))
              refine ⟨⟨k + 1, nk, fk, ⟨by omega, by omega⟩, by go_num, by have := HSD.out; omega, HMX.out, HGX.out, ?_⟩, by simp [intOf]; omega⟩
              show _ = _
              rw [H.out, infL_at ns ps l k hlt1 hlt2, HS.out]
    · have HE := Lib.hid (show infL ns ps l f = fk by rw [H.out]; exact infL_end ns ps l k (by omega) fk)
      clear H
      go_wp2_with fail
      go_end0
      refine ⟨⟨_, rfl⟩, ?_, HG.out⟩
      rw [HE.out]
      exact HMK.out.mono (by omega)
theorem infers_any (d : Nat) : InfersAt d := Nat.strongRecOn d infers_step
end Go.Proofs.Ytcelpmojhjnggaa
