/- The walk of KindsBack. -/
import Derived.Test.YtcelpmojhjnggaaM0
import Derived.Deep.Cut
import Derived.Deep.RegionHeld3
import Derived.Deep.DeepCutAuto
namespace Go.Proofs.Ytcelpmojhjnggaa
open Go Go.RowKit Go.Sort Go.Deep KindsP
set_option maxHeartbeats 2000000
set_option maxRecDepth 100000

abbrev set5 (w : World) (B : Nat) (v0 v1 v2 v3 v4 : Value) : World := ((((w.setCell ⟨B, 0, none⟩ v0).setCell ⟨B, 1, none⟩ v1).setCell ⟨B, 2, none⟩ v2).setCell ⟨B, 3, none⟩ v3).setCell ⟨B, 4, none⟩ v4
theorem set5_at (w : World) (B : Nat) (a0 a1 a2 a3 a4 v0 v1 v2 v3 v4 : Value) (t : TypeId) (f : Nat × Nat) (h : w.heap[B]? = some (.cells #[a0, a1, a2, a3, a4] t f)) : (set5 w B v0 v1 v2 v3 v4).heap[B]? = some (.cells #[v0, v1, v2, v3, v4] t f) := by
  have step : ∀ (w : World) (cs : Array Value) (i : Nat) (v : Value), w.heap[B]? = some (.cells cs t f) → (w.setCell ⟨B, i, none⟩ v).heap[B]? = some (.cells (cs.setIfInBounds i v) t f) := by
    intro w cs i v h
    simp [World.setCell, Array.getElem?_modify, h]
  have h := step _ _ 4 v4 (step _ _ 3 v3 (step _ _ 2 v2 (step _ _ 1 v1 (step _ _ 0 v0 h))))
  simpa using h
theorem lies_in {w w' : World} {ok : Nat → Prop} (hk : ∀ b, b < w.heap.size → ok b ∧ w'.heap[b]? = w.heap[b]?) : ∀ (d : Nat) (v : Value) (t : Ty), Lies w d v t → LiesIn ok w' d v t := by
  intro d
  induction d with
  | zero => intro v t h; exact h.elim
  | succ d ih =>
    intro v t h
    obtain ⟨k, p, n, la, lr⟩ := t
    obtain ⟨va, vr, h1, h2, h3⟩ := h
    have key : ∀ (v : Value) (l : List Ty), RowOf (Lies w d) w v l → RowIn ok (LiesIn ok w' d) w' v l := by
      intro v l h
      obtain ⟨a, c, h1, h2, h3, h4⟩ := h
      refine ⟨a, c, h1, h2, h3, ?_⟩
      by_cases hne : l = []
      · exact .inl hne
      rcases h4 with h4 | ⟨b, o, h5, h6⟩
      · exact .inl h4
      · have hlt : b < w.heap.size := by
          cases l with
          | nil => exact absurd rfl hne
          | cons x xs =>
            obtain ⟨_, _, _, _, _, _, hf⟩ := h6 0 x rfl
            exact World.block_lt_of_cell? w _ hf.c0
        refine .inr ⟨b, o, h5, (hk b hlt).1, fun i x hx => ?_⟩
        obtain ⟨c0, c1, c2, c3, c4, hr, hf⟩ := h6 i x hx
        exact ⟨c0, c1, c2, c3, c4, ih _ _ hr, five_kept hf (hk b hlt).2⟩
    exact ⟨va, vr, h1, key va la h2, key vr lr h3⟩
theorem set5_size (w : World) (B : Nat) (v0 v1 v2 v3 v4 : Value) : (set5 w B v0 v1 v2 v3 v4).heap.size = w.heap.size := by simp

theorem rowin_one {ok : Nat → Prop} {R : Value → Ty → Prop} {w : World} {b : Nat} {c0 c1 c2 c3 c4 : Value} {t : TypeId} {f : Nat × Nat} {x : Ty} (h : w.heap[b]? = some (Obj.cells #[c0, c1, c2, c3, c4] t f)) (ho : ok b) (hR : R (.agg #[c0, c1, c2, c3, c4]) x) : RowIn ok R w (.slice (some ⟨b, 0, none⟩) 1 1) [x] := by
  refine ⟨_, 1, rfl, by simp, by unfold maxLen; omega, .inr ⟨b, 0, rfl, ho, fun i y hy => ?_⟩⟩
  cases i with
  | zero =>
    simp at hy
    subst hy
    exact ⟨c0, c1, c2, c3, c4, hR, five_of h⟩
  | succ i => simp at hy
theorem rowin_nil (ok : Nat → Prop) (R : Value → Ty → Prop) (w : World) : RowIn ok R w (.slice none 0 0) [] := ⟨none, 0, rfl, by simp, by unfold maxLen; omega, .inl rfl⟩
theorem back_round (wr : World) (B7 B8 : Nat) (hne : B7 ≠ B8) (l7 : B7 < wr.heap.size) (l8 : B8 < wr.heap.size) (p0 p1 p2 p3 p4 r0 r1 r2 r3 r4 v0 v1 v2 v3 v4 u0 u1 u2 u3 u4 : Value) (h7 : wr.heap[B7]? = some (.cells #[p0, p1, p2, p3, p4] 31)) (h8 : wr.heap[B8]? = some (.cells #[r0, r1, r2, r3, r4] 31)) (cp cr : Array Value) :
    (((set5 (set5 wr B7 v0 v1 v2 v3 v4) B8 u0 u1 u2 u3 u4).alloc (.cells cp 31)).alloc (.cells cr 31)).heap[B7]? = some (.cells #[v0, v1, v2, v3, v4] 31) ∧
    (((set5 (set5 wr B7 v0 v1 v2 v3 v4) B8 u0 u1 u2 u3 u4).alloc (.cells cp 31)).alloc (.cells cr 31)).heap[B8]? = some (.cells #[u0, u1, u2, u3, u4] 31) ∧
    (((set5 (set5 wr B7 v0 v1 v2 v3 v4) B8 u0 u1 u2 u3 u4).alloc (.cells cp 31)).alloc (.cells cr 31)).heap[wr.heap.size]? = some (.cells cp 31) ∧
    (((set5 (set5 wr B7 v0 v1 v2 v3 v4) B8 u0 u1 u2 u3 u4).alloc (.cells cp 31)).alloc (.cells cr 31)).heap[wr.heap.size + 1]? = some (.cells cr 31) ∧
    ∀ b, b ≠ B7 → b ≠ B8 → b < wr.heap.size → (((set5 (set5 wr B7 v0 v1 v2 v3 v4) B8 u0 u1 u2 u3 u4).alloc (.cells cp 31)).alloc (.cells cr 31)).heap[b]? = wr.heap[b]? := by
  have hs : (set5 (set5 wr B7 v0 v1 v2 v3 v4) B8 u0 u1 u2 u3 u4).heap.size = wr.heap.size := by rw [set5_size, set5_size]
  have hk := alloc_known2 (w := set5 (set5 wr B7 v0 v1 v2 v3 v4) B8 u0 u1 u2 u3 u4) (cs := cp) (ds := cr) (t := 31) (u := 31) (fr := (0, 0)) (gr := (0, 0)) (Below.refl _ _)
  rw [hs] at hk
  obtain ⟨k1, k2, kb⟩ := hk
  have h7' : (set5 (set5 wr B7 v0 v1 v2 v3 v4) B8 u0 u1 u2 u3 u4).heap[B7]? = some (.cells #[v0, v1, v2, v3, v4] 31) := (keep5 _ B8 _ _ _ _ _ B7 hne).trans (set5_at wr B7 _ _ _ _ _ _ _ _ _ _ _ _ h7)
  have h8' : (set5 (set5 wr B7 v0 v1 v2 v3 v4) B8 u0 u1 u2 u3 u4).heap[B8]? = some (.cells #[u0, u1, u2, u3, u4] 31) := set5_at _ B8 r0 r1 r2 r3 r4 _ _ _ _ _ _ _ ((keep5 wr B7 _ _ _ _ _ B8 (Ne.symm hne)).trans h8)
  refine ⟨(kb.block B7 l7).trans h7', (kb.block B8 l8).trans h8', k1, k2, fun b n7 n8 hlt => (kb.block b hlt).trans ((keep5 _ B8 _ _ _ _ _ b n8).trans (keep5 _ B7 _ _ _ _ _ b n7))⟩
theorem cell_later {w wx : World} {a : Addr} {v : Value} (hb : Below w.heap.size w wx) (h : w.cell? a = some v) : wx.cell? a = some v := (hb.cell (World.block_lt_of_cell? _ _ h)).trans h
theorem below_drew {w w' : World} (h : Below w.drew.heap.size w.drew w') : Below w.heap.size w w' := ⟨h.os, h.tape, h.output, h.size, h.block⟩
theorem alloc3_known (w : World) (o0 o1 o2 : Obj) : (((w.alloc o0).alloc o1).alloc o2).heap[w.heap.size]? = some o0 ∧ (((w.alloc o0).alloc o1).alloc o2).heap[w.heap.size + 1]? = some o1 ∧ (((w.alloc o0).alloc o1).alloc o2).heap[w.heap.size + 1 + 1]? = some o2 ∧ Below w.heap.size w (((w.alloc o0).alloc o1).alloc o2) := by
  refine ⟨?_, ?_, ?_, (((Below.refl _ _).alloc (Nat.le_refl _) _).alloc (by simp) _).alloc (by simp <;> omega) _⟩
  · exact (heap_alloc_old _ _ (by simp <;> omega)).trans ((heap_alloc_old _ _ (by simp)).trans (heap_alloc_new w _))
  · refine (heap_alloc_old _ _ (by simp)).trans ?_
    have := heap_alloc_new (w.alloc o0) o1
    rwa [show (w.alloc o0).heap.size = w.heap.size + 1 by simp] at this
  · have := heap_alloc_new ((w.alloc o0).alloc o1) o2
    rwa [show ((w.alloc o0).alloc o1).heap.size = w.heap.size + 1 + 1 by simp] at this
theorem names_one {w : World} {q : Nat} {name : ByteArray} {t : TypeId} {f : Nat × Nat} (h : w.heap[q]? = some (Obj.cells #[.string name] t f)) (hn : name.size ≤ maxLen) : NamesIs w (.slice (some ⟨q, 0, none⟩) 1 1) [name] := by
  refine ⟨⟨_, _, rfl, by simp, .inr ⟨q, 0, rfl, fun i hi => ?_⟩⟩, fun s hs => by rw [List.mem_singleton.1 hs]; exact hn⟩
  have : i = 0 := by simp at hi; omega
  subst this
  simp [World.cell?, h]
theorem KindsBack_x (w : World) (d : Nat) (kt : Int) (pt nt name : ByteArray) (a1 a2 : Option Addr) (m1 q1 m2 q2 : Nat) (t : Ty) (x : Int) (hx0 : 0 ≤ x) (hx1 : x ≤ 255) (hname : name.size ≤ maxLen) (hkd : Ty.kd t = kt) (hl : Lies w d (.agg #[.int .i64 kt, .string pt, .string nt, .slice a1 m1 q1, .slice a2 m2 q2]) t) :
    Calls Try.prog 7 #[.string name, .agg #[.int .i64 kt, .string pt, .string nt, .slice a1 m1 q1, .slice a2 m2 q2], .int .u8 x] w fun e w' => e = .returned (.bool true) ∧ Below w.heap.size w w' := by
  have hb0 : Below w.heap.size w ((w.alloc (.cells #[.int .i64 kt, .string pt, .string nt, .slice a1 m1 q1, .slice a2 m2 q2] 31)).alloc (.cells #[.int .i64 kt, .string pt, .string nt, .slice a1 m1 q1, .slice a2 m2 q2] 31)) := alloc2_below _ _ _
  have hk0 := alloc_known2 (w := w) (cs := #[.int .i64 kt, .string pt, .string nt, .slice a1 m1 q1, .slice a2 m2 q2]) (ds := #[.int .i64 kt, .string pt, .string nt, .slice a1 m1 q1, .slice a2 m2 q2]) (t := 31) (u := 31) (fr := (0, 0)) (gr := (0, 0)) (Below.refl _ _)
  have hgr := great_any d ((w.alloc (.cells #[.int .i64 kt, .string pt, .string nt, .slice a1 m1 q1, .slice a2 m2 q2] 31)).alloc (.cells #[.int .i64 kt, .string pt, .string nt, .slice a1 m1 q1, .slice a2 m2 q2] 31)) (.slice (some ⟨w.heap.size + 1, 0, none⟩) 1 1) [t] (row_one hk0.2.1 (Lies.below hb0 _ _ _ hl))
  have HK := Lib.hid (fun (W : World) (hb : Below ((w.alloc (.cells #[.int .i64 kt, .string pt, .string nt, .slice a1 m1 q1, .slice a2 m2 q2] 31)).alloc (.cells #[.int .i64 kt, .string pt, .string nt, .slice a1 m1 q1, .slice a2 m2 q2] 31)).heap.size ((w.alloc (.cells #[.int .i64 kt, .string pt, .string nt, .slice a1 m1 q1, .slice a2 m2 q2] 31)).alloc (.cells #[.int .i64 kt, .string pt, .string nt, .slice a1 m1 q1, .slice a2 m2 q2] 31)) W) => alloc_known2 hb)
  have HL := Lib.hid hl
  have HB0 := Lib.hid hb0
  clear hl hk0 hb0
  cases hg : greatB [t]
  · have hs4 := great_siz [t] hg
    rw [hg] at hgr
    have HS := Lib.hid (show sizT t ≤ 400 by rw [sizL] at hs4; omega)
    clear hg hs4
    go_enter Try.func7, Try.ntmps7
    go_wp2_with (first | (go_at_call 12; refine hgr.mono ?_; rintro e w1 ⟨rfl, hb1⟩; refine Hid.out ?_))
    refine Lib.hid ?_
    obtain ⟨hk, -, hbw⟩ := HK.out w1 hb1
    have c0 : w1.cell? ⟨w.heap.size, 0, none⟩ = some (.int .i64 kt) := by simp [World.cell?, hk]
    have c1 : w1.cell? ⟨w.heap.size, 1, none⟩ = some (.string pt) := by simp [World.cell?, hk]
    have c2 : w1.cell? ⟨w.heap.size, 2, none⟩ = some (.string nt) := by simp [World.cell?, hk]
    have c3 : w1.cell? ⟨w.heap.size, 3, none⟩ = some (.slice a1 m1 q1) := by simp [World.cell?, hk]
    have c4 : w1.cell? ⟨w.heap.size, 4, none⟩ = some (.slice a2 m2 q2) := by simp [World.cell?, hk]
    have HKT := Lib.hid hk
    have HBW := Lib.hid hbw
    have hlt := (Array.getElem?_eq_some_iff.1 hk).1
    have HL1 := Lib.hid (Lies.below hbw _ _ _ HL.out)
    clear hgr hb1 hk hbw
    go_wp2_with fail
    have hD : ∃ Dn : Nat, x.tmod 20 = Dn ∧ Dn < 20 := by
      obtain ⟨n, rfl⟩ := Int.eq_ofNat_of_zero_le hx0
      exact ⟨n % 20, by rfl, by omega⟩
    obtain ⟨Dn, hDn, hDlt⟩ := hD
    have hxm : x % 20 = (Dn : Int) := by rw [← hDn, Int.tmod_eq_emod_of_nonneg hx0]
    have H7 := Lib.hid (alloc_known2 (w := w1) (cs := #[.int .i64 9, .string ⟨#[]⟩, .string name, .slice none 0 0, .slice none 0 0]) (ds := #[.int .i64 kt, .string pt, .string nt, .slice a1 m1 q1, .slice a2 m2 q2]) (t := 31) (u := 31) (fr := (0, 0)) (gr := (0, 0)) (Below.refl _ _))
    go_loopw [9] (fun iv wr => ∃ (j dd : Nat) (p0 p1 p2 p3 p4 r0 r1 r2 r3 r4 : Value), j ≤ Dn ∧ iv = .int .i64 j ∧ wr.heap[w1.heap.size]? = some (.cells #[p0, p1, p2, p3, p4] 31) ∧ wr.heap[w1.heap.size + 1]? = some (.cells #[r0, r1, r2, r3, r4] 31) ∧
      LiesIn (fun b => b ≠ w1.heap.size ∧ b ≠ w1.heap.size + 1) wr dd (.agg #[p0, p1, p2, p3, p4]) (itT j (varT name)) ∧ LiesIn (fun b => b ≠ w1.heap.size ∧ b ≠ w1.heap.size + 1) wr dd (.agg #[r0, r1, r2, r3, r4]) (itT j t) ∧ Below w1.heap.size w1 wr) (fun iv _ => Dn - (intOf iv).toNat)
    case atStart =>
      refine ⟨0, d + 1, _, _, _, _, _, _, _, _, _, _, by omega, rfl, H7.out.1, H7.out.2.1, ?_, ?_, H7.out.2.2⟩
      · exact ⟨_, _, rfl, ⟨none, 0, rfl, by simp, by unfold maxLen; omega, .inl rfl⟩, ⟨none, 0, rfl, by simp, by unfold maxLen; omega, .inl rfl⟩⟩
      · refine (lies_in (fun b hb => ?_) _ _ _ (HL1.out.le (Nat.le_succ d)))
        exact ⟨⟨by omega, by omega⟩, H7.out.2.2.block b hb⟩
    case round =>
      obtain ⟨j, dd, p0, p1, p2, p3, p4, r0, r1, r2, r3, r4, hj, rfl, hk7, hk8, hP, hR, hb⟩ := hrel
      obtain ⟨u0, u1, u2, u3, u4, u5, u6, u7, u8, rfl, rfl, rfl, rfl, rfl⟩ := lies_form (LiesIn.lies _ _ _ hP)
      obtain ⟨s0, s1, s2, s3, s4, s5, s6, s7, s8, rfl, rfl, rfl, rfl, rfl⟩ := lies_form (LiesIn.lies _ _ _ hR)
      have g0 : wr.cell? ⟨w1.heap.size, 0, none⟩ = some (.int .i64 u0) := by simp [World.cell?, hk7]
      have g1 : wr.cell? ⟨w1.heap.size, 1, none⟩ = some (.string u1) := by simp [World.cell?, hk7]
      have g2 : wr.cell? ⟨w1.heap.size, 2, none⟩ = some (.string u2) := by simp [World.cell?, hk7]
      have g3 : wr.cell? ⟨w1.heap.size, 3, none⟩ = some (.slice u3 u4 u5) := by simp [World.cell?, hk7]
      have g4 : wr.cell? ⟨w1.heap.size, 4, none⟩ = some (.slice u6 u7 u8) := by simp [World.cell?, hk7]
      have h0 : wr.cell? ⟨w1.heap.size + 1, 0, none⟩ = some (.int .i64 s0) := by simp [World.cell?, hk8]
      have h1 : wr.cell? ⟨w1.heap.size + 1, 1, none⟩ = some (.string s1) := by simp [World.cell?, hk8]
      have h2 : wr.cell? ⟨w1.heap.size + 1, 2, none⟩ = some (.string s2) := by simp [World.cell?, hk8]
      have h3 : wr.cell? ⟨w1.heap.size + 1, 3, none⟩ = some (.slice s3 s4 s5) := by simp [World.cell?, hk8]
      have h4 : wr.cell? ⟨w1.heap.size + 1, 4, none⟩ = some (.slice s6 s7 s8) := by simp [World.cell?, hk8]
      have f7 : ∀ i, wr.frozen? ⟨w1.heap.size, i, none⟩ = false := fun i => by simp [World.frozen?, hk7]
      have f8 : ∀ i, wr.frozen? ⟨w1.heap.size + 1, i, none⟩ = false := fun i => by simp [World.frozen?, hk8]
      have l8 : w1.heap.size + 1 < wr.heap.size := (Array.getElem?_eq_some_iff.1 hk8).1
      have l7 : w1.heap.size < wr.heap.size := by omega
      have l7' : w1.heap.size < wr.heap.size + 1 := by omega
      have l8' : w1.heap.size + 1 < wr.heap.size + 1 := by omega
      have l7n : w1.heap.size ≠ wr.heap.size := by omega
      have l8n : w1.heap.size + 1 ≠ wr.heap.size := by omega
      have HK7 := Lib.hid hk7
      have HK8 := Lib.hid hk8
      have HP := Lib.hid hP
      have HR := Lib.hid hR
      have HB := Lib.hid hb
      clear hk7 hk8 hP hR hb
      by_cases hjd : j < Dn
      · have hlt' : (j : Int) < x.tmod 20 := by rw [hDn]; omega
        go_wp2_with fail
        have hr := back_round wr w1.heap.size (w1.heap.size + 1) (by omega) l7 l8 _ _ _ _ _ _ _ _ _ _ (.int .i64 6) (.string ⟨#[]⟩) (.string ⟨#[]⟩) (.slice (some ⟨wr.heap.size, 0, none⟩) 1 1) (.slice none 0 0) (.int .i64 6) (.string ⟨#[]⟩) (.string ⟨#[]⟩) (.slice (some ⟨wr.heap.size + 1, 0, none⟩) 1 1) (.slice none 0 0) HK7.out HK8.out #[.int .i64 u0, .string u1, .string u2, .slice u3 u4 u5, .slice u6 u7 u8] #[.int .i64 s0, .string s1, .string s2, .slice s3 s4 s5, .slice s6 s7 s8]
        obtain ⟨z7, z8, zp, zr, zk⟩ := hr
        refine ⟨⟨j + 1, dd + 1, _, _, _, _, _, _, _, _, _, _, by omega, by go_num, z7, z8, ?_, ?_, ?_⟩, by simp [intOf]; omega⟩
        · exact ⟨_, _, rfl, rowin_one zp ⟨by omega, by omega⟩ (HP.out.kept (fun b h1 h2 => ⟨h1, zk b h1.1 h1.2 h2⟩)), rowin_nil _ _ _⟩
        · exact ⟨_, _, rfl, rowin_one zr ⟨by omega, by omega⟩ (HR.out.kept (fun b h1 h2 => ⟨h1, zk b h1.1 h1.2 h2⟩)), rowin_nil _ _ _⟩
        · exact (((((((((((HB.out.setCell (by simp) _).setCell (by simp) _).setCell (by simp) _).setCell (by simp) _).setCell (by simp) _).setCell (by simp) _).setCell (by simp) _).setCell (by simp) _).setCell (by simp) _).setCell (by simp) _).alloc (by simp <;> omega) _).alloc (by simp <;> omega) _
      · have hlt' : ¬ (j : Int) < x.tmod 20 := by rw [hDn]; omega
        have hjD : j = Dn := by omega
        subst hjD
        obtain ⟨z0, z1, z2, zb⟩ := alloc3_known wr (.cells #[.string name] 9) (.cells #[.int .i64 u0, .string u1, .string u2, .slice u3 u4 u5, .slice u6 u7 u8] 31) (.cells #[.int .i64 s0, .string s1, .string s2, .slice s3 s4 s5, .slice s6 s7 s8] 31)
        have zs : wr.heap.size + 3 ≤ (((wr.alloc (.cells #[.string name] 9)).alloc (.cells #[.int .i64 u0, .string u1, .string u2, .slice u3 u4 u5, .slice u6 u7 u8] 31)).alloc (.cells #[.int .i64 s0, .string s1, .string s2, .slice s3 s4 s5, .slice s6 s7 s8] 31)).heap.size := by simp
        have LP := Lies.below zb _ _ _ (LiesIn.lies _ _ _ HP.out)
        have LR := Lies.below zb _ _ _ (LiesIn.lies _ _ _ HR.out)
        have RN : NamesIs (((wr.alloc (.cells #[.string name] 9)).alloc (.cells #[.int .i64 u0, .string u1, .string u2, .slice u3 u4 u5, .slice u6 u7 u8] 31)).alloc (.cells #[.int .i64 s0, .string s1, .string s2, .slice s3 s4 s5, .slice s6 s7 s8] 31)) (.slice (some ⟨wr.heap.size, 0, none⟩) 1 1) [name] := by
          refine ⟨⟨_, _, rfl, by simp, .inr ⟨wr.heap.size, 0, rfl, fun i hi => ?_⟩⟩, fun s hs => by rw [List.mem_singleton.1 hs]; exact hname⟩
          have : i = 0 := by simp at hi; omega
          subst this
          simp [World.cell?, z0]
        have hs := HS.out
        have hinf := infer_any (((wr.alloc (.cells #[.string name] 9)).alloc (.cells #[.int .i64 u0, .string u1, .string u2, .slice u3 u4 u5, .slice u6 u7 u8] 31)).alloc (.cells #[.int .i64 s0, .string s1, .string s2, .slice s3 s4 s5, .slice s6 s7 s8] 31)) dd dd _ _ _ [name] [itT j (varT name)] [itT j t] RN (row_one z1 LP) (row_one z2 LR) (by rw [sizL, sizL, siz_it, varT, sizT, sizL]; omega) (by rw [sizL, sizL, siz_it]; omega) (by simp)
        rw [infer_it, hkd] at hinf
        have KT := ((zb.block w.heap.size (by omega)).trans ((HB.out.block w.heap.size hlt).trans HKT.out))
        have K7 := (zb.block (w1.heap.size) l7).trans HK7.out
        have K8 := (zb.block (w1.heap.size + 1) l8).trans HK8.out
        have lT : w.heap.size < (((wr.alloc (.cells #[.string name] 9)).alloc (.cells #[.int .i64 u0, .string u1, .string u2, .slice u3 u4 u5, .slice u6 u7 u8] 31)).alloc (.cells #[.int .i64 s0, .string s1, .string s2, .slice s3 s4 s5, .slice s6 s7 s8] 31)).heap.size := by omega
        have lB7 : w1.heap.size < (((wr.alloc (.cells #[.string name] 9)).alloc (.cells #[.int .i64 u0, .string u1, .string u2, .slice u3 u4 u5, .slice u6 u7 u8] 31)).alloc (.cells #[.int .i64 s0, .string s1, .string s2, .slice s3 s4 s5, .slice s6 s7 s8] 31)).heap.size := by omega
        have lB8 : w1.heap.size + 1 < (((wr.alloc (.cells #[.string name] 9)).alloc (.cells #[.int .i64 u0, .string u1, .string u2, .slice u3 u4 u5, .slice u6 u7 u8] 31)).alloc (.cells #[.int .i64 s0, .string s1, .string s2, .slice s3 s4 s5, .slice s6 s7 s8] 31)).heap.size := by omega
        have HBZ := Lib.hid (HBW.out.trans ((HB.out.trans (zb.mono HB.out.size)).mono HBW.out.size))
        have HLP := Lib.hid LP
        have HLR := Lib.hid LR
        have HLT := Lib.hid (Lies.below (HB.out.trans (zb.mono HB.out.size)) _ _ _ HL1.out)
        clear z0 z1 z2 LP LR RN hs
        cases e4 : (kt == 4) <;> cases e0 : (kt == 0)
        all_goals
          rw [e4, e0] at hinf
          simp only [Bool.or_false, Bool.or_true, Bool.or_self, Bool.false_eq_true, if_true, if_false] at hinf
        · go_wp2_with (first | (go_at_call 14; refine hinf.mono ?_; rintro e w4 ⟨hb4, u, rfl, hu⟩; refine Hid.out ?_))
          refine Lib.hid ?_
          have hrow := hu.row (fun _ _ h => LiesIn.lies _ _ _ h)
          obtain ⟨au, cu, rfl, hcu, hcum, hfu⟩ := hrow.form
          obtain ⟨bu, ou, rfl⟩ := hfu (by simp)
          obtain ⟨x0, x1, x2, x3, x4, hly, hfy⟩ := hrow.get 0 t rfl
          rw [Nat.zero_mul, Nat.add_zero] at hfy
          obtain ⟨y0, y1, y2, y3, y4, y5, y6, y7, y8, rfl, rfl, rfl, rfl, rfl⟩ := lies_form hly
          obtain ⟨i0, i1, i2, i3, i4⟩ := hfy
          have kTw4 := (hb4.block w.heap.size lT).trans KT
          have k7w4 := (hb4.block (w1.heap.size) lB7).trans K7
          have k8w4 := (hb4.block (w1.heap.size + 1) lB8).trans K8
          have c0 : w4.cell? ⟨w.heap.size, 0, none⟩ = some (.int .i64 kt) := (by simp [World.cell?, kTw4])
          have c1 : w4.cell? ⟨w.heap.size, 1, none⟩ = some (.string pt) := (by simp [World.cell?, kTw4])
          have c2 : w4.cell? ⟨w.heap.size, 2, none⟩ = some (.string nt) := (by simp [World.cell?, kTw4])
          have c3 : w4.cell? ⟨w.heap.size, 3, none⟩ = some (.slice a1 m1 q1) := (by simp [World.cell?, kTw4])
          have c4 : w4.cell? ⟨w.heap.size, 4, none⟩ = some (.slice a2 m2 q2) := (by simp [World.cell?, kTw4])
          have g0 : w4.cell? ⟨w1.heap.size, 0, none⟩ = some (.int .i64 u0) := (by simp [World.cell?, k7w4])
          have g1 : w4.cell? ⟨w1.heap.size, 1, none⟩ = some (.string u1) := (by simp [World.cell?, k7w4])
          have g2 : w4.cell? ⟨w1.heap.size, 2, none⟩ = some (.string u2) := (by simp [World.cell?, k7w4])
          have g3 : w4.cell? ⟨w1.heap.size, 3, none⟩ = some (.slice u3 u4 u5) := (by simp [World.cell?, k7w4])
          have g4 : w4.cell? ⟨w1.heap.size, 4, none⟩ = some (.slice u6 u7 u8) := (by simp [World.cell?, k7w4])
          have h0 : w4.cell? ⟨w1.heap.size + 1, 0, none⟩ = some (.int .i64 s0) := (by simp [World.cell?, k8w4])
          have h1 : w4.cell? ⟨w1.heap.size + 1, 1, none⟩ = some (.string s1) := (by simp [World.cell?, k8w4])
          have h2 : w4.cell? ⟨w1.heap.size + 1, 2, none⟩ = some (.string s2) := (by simp [World.cell?, k8w4])
          have h3 : w4.cell? ⟨w1.heap.size + 1, 3, none⟩ = some (.slice s3 s4 s5) := (by simp [World.cell?, k8w4])
          have h4 : w4.cell? ⟨w1.heap.size + 1, 4, none⟩ = some (.slice s6 s7 s8) := (by simp [World.cell?, k8w4])
          have HB4 := Lib.hid (HBZ.out.trans (hb4.mono HBZ.out.size))
          have HSW := Lib.hid (fun (W' : World) (hb : Below w4.heap.size w4 W') => (show W'.cell? ⟨w.heap.size, 0, none⟩ = some (.int .i64 kt) ∧ W'.cell? ⟨w.heap.size, 1, none⟩ = some (.string pt) ∧ W'.cell? ⟨w.heap.size, 2, none⟩ = some (.string nt) ∧ W'.cell? ⟨w.heap.size, 3, none⟩ = some (.slice a1 m1 q1) ∧ W'.cell? ⟨w.heap.size, 4, none⟩ = some (.slice a2 m2 q2) ∧ W'.cell? ⟨w1.heap.size, 0, none⟩ = some (.int .i64 u0) ∧ W'.cell? ⟨w1.heap.size, 1, none⟩ = some (.string u1) ∧ W'.cell? ⟨w1.heap.size, 2, none⟩ = some (.string u2) ∧ W'.cell? ⟨w1.heap.size, 3, none⟩ = some (.slice u3 u4 u5) ∧ W'.cell? ⟨w1.heap.size, 4, none⟩ = some (.slice u6 u7 u8) ∧ W'.cell? ⟨w1.heap.size + 1, 0, none⟩ = some (.int .i64 s0) ∧ W'.cell? ⟨w1.heap.size + 1, 1, none⟩ = some (.string s1) ∧ W'.cell? ⟨w1.heap.size + 1, 2, none⟩ = some (.string s2) ∧ W'.cell? ⟨w1.heap.size + 1, 3, none⟩ = some (.slice s3 s4 s5) ∧ W'.cell? ⟨w1.heap.size + 1, 4, none⟩ = some (.slice s6 s7 s8) ∧ W'.cell? ⟨bu, ou, none⟩ = some (.int .i64 y0) ∧ W'.cell? ⟨bu, ou + 1, none⟩ = some (.string y1) ∧ W'.cell? ⟨bu, ou + 2, none⟩ = some (.string y2) ∧ W'.cell? ⟨bu, ou + 3, none⟩ = some (.slice y3 y4 y5) ∧ W'.cell? ⟨bu, ou + 4, none⟩ = some (.slice y6 y7 y8) from ⟨cell_later hb c0, cell_later hb c1, cell_later hb c2, cell_later hb c3, cell_later hb c4, cell_later hb g0, cell_later hb g1, cell_later hb g2, cell_later hb g3, cell_later hb g4, cell_later hb h0, cell_later hb h1, cell_later hb h2, cell_later hb h3, cell_later hb h4, cell_later hb i0, cell_later hb i1, cell_later hb i2, cell_later hb i3, cell_later hb i4⟩))
          have HE1 := Lib.hid (fun (W' : World) (hb : Below w4.heap.size w4 W') => same_any dd d W' _ _ _ _ (Lies.below hb _ _ _ hly) (Lies.below (hb4.trans (hb.mono hb4.size)) _ _ _ HLT.out))
          have HPUT := Lib.hid (fun (W' : World) (q : Nat) (hb : Below w4.heap.size w4 W') (hq : W'.heap[q]? = some (.cells #[.string name] 9)) => put_any dd W' dd _ (.slice (some ⟨q, 0, none⟩) 1 1) _ _ [name] [t] (Lies.below (hb4.trans (hb.mono hb4.size)) _ _ _ HLP.out) (names_one hq hname) (hrow.below hb) (by have := HS.out; rw [siz_it, varT, sizT, sizL]; omega) (by have := HS.out; rw [sizL, sizL]; omega))
          have HE2 := Lib.hid (fun (W' : World) (u2 : Value) (DD : Nat) (hb : Below w4.heap.size w4 W') (hu2 : Lies W' DD u2 (itT j t)) => same_any DD dd W' _ _ _ _ hu2 (Lies.below (hb4.trans (hb.mono hb4.size)) _ _ _ HLR.out))
          rw [sameT_refl] at HE1 HE2
          rw [put_it] at HPUT
          clear hinf hrow hfu hly hu hcu hcum
          go_upto_region 13 with fail
          go_region_held3 (fun w' => w'.cell? ⟨w.heap.size, 0, none⟩ = some (.int .i64 kt) ∧ w'.cell? ⟨w.heap.size, 1, none⟩ = some (.string pt) ∧ w'.cell? ⟨w.heap.size, 2, none⟩ = some (.string nt) ∧ w'.cell? ⟨w.heap.size, 3, none⟩ = some (.slice a1 m1 q1) ∧ w'.cell? ⟨w.heap.size, 4, none⟩ = some (.slice a2 m2 q2) ∧ w'.cell? ⟨w1.heap.size, 0, none⟩ = some (.int .i64 u0) ∧ w'.cell? ⟨w1.heap.size, 1, none⟩ = some (.string u1) ∧ w'.cell? ⟨w1.heap.size, 2, none⟩ = some (.string u2) ∧ w'.cell? ⟨w1.heap.size, 3, none⟩ = some (.slice u3 u4 u5) ∧ w'.cell? ⟨w1.heap.size, 4, none⟩ = some (.slice u6 u7 u8) ∧ w'.cell? ⟨w1.heap.size + 1, 0, none⟩ = some (.int .i64 s0) ∧ w'.cell? ⟨w1.heap.size + 1, 1, none⟩ = some (.string s1) ∧ w'.cell? ⟨w1.heap.size + 1, 2, none⟩ = some (.string s2) ∧ w'.cell? ⟨w1.heap.size + 1, 3, none⟩ = some (.slice s3 s4 s5) ∧ w'.cell? ⟨w1.heap.size + 1, 4, none⟩ = some (.slice s6 s7 s8) ∧ w'.cell? ⟨bu, ou, none⟩ = some (.int .i64 y0) ∧ w'.cell? ⟨bu, ou + 1, none⟩ = some (.string y1) ∧ w'.cell? ⟨bu, ou + 2, none⟩ = some (.string y2) ∧ w'.cell? ⟨bu, ou + 3, none⟩ = some (.slice y3 y4 y5) ∧ w'.cell? ⟨bu, ou + 4, none⟩ = some (.slice y6 y7 y8)) (first | exact HSW.out _ (Below.refl _ _).drew | exact HSW.out _ H5.out | exact HSW.out _ (H5.out.alloc H5.out.size _) | exact HSW.out _ H6.out | exact HSW.out _ H7'.out) (first | (go_at_call_of 21 (Value.agg #[Value.int IntKind.i64 y0, Value.string y1, Value.string y2, Value.slice y3 y4 y5, Value.slice y6 y7 y8]); refine (HE1.out _ ?_).mono ?_; exact (Below.refl _ _).drew; rintro e w5 ⟨rfl, hb5'⟩; have H5 := Lib.hid (below_drew hb5'); clear hb5') | (go_at_call 18; refine (HPUT.out _ _ ?_ ?_).mono ?_; exact H5.out.alloc H5.out.size _; exact heap_alloc_new w5 _; rintro e w6 ⟨u2', rfl, hu2, hb6⟩; have H6 := Lib.hid ((H5.out.alloc H5.out.size _).trans (hb6.mono (H5.out.alloc H5.out.size _).size)); have HU2 := Lib.hid (LiesIn.lies _ _ _ hu2); clear hu2 hb6) | (go_at_call 21; refine (HE2.out _ _ _ H6.out HU2.out).mono ?_; rintro e w7 ⟨rfl, hb7⟩; have H7' := Lib.hid (H6.out.trans (hb7.mono H6.out.size)); clear hb7))
          all_goals
            go_wp2_with fail
            go_ret
            exact ⟨rfl, HB4.out.trans (H7'.out.mono HB4.out.size)⟩
        · go_wp2_with (first | (go_at_call 14; refine hinf.mono ?_; rintro e w4 ⟨hb4, rfl⟩; refine Hid.out ?_))
          refine Lib.hid ?_
          have kTw4 := (hb4.block w.heap.size lT).trans KT
          have k7w4 := (hb4.block (w1.heap.size) lB7).trans K7
          have k8w4 := (hb4.block (w1.heap.size + 1) lB8).trans K8
          have c0 : w4.cell? ⟨w.heap.size, 0, none⟩ = some (.int .i64 kt) := (by simp [World.cell?, kTw4])
          have c1 : w4.cell? ⟨w.heap.size, 1, none⟩ = some (.string pt) := (by simp [World.cell?, kTw4])
          have c2 : w4.cell? ⟨w.heap.size, 2, none⟩ = some (.string nt) := (by simp [World.cell?, kTw4])
          have c3 : w4.cell? ⟨w.heap.size, 3, none⟩ = some (.slice a1 m1 q1) := (by simp [World.cell?, kTw4])
          have c4 : w4.cell? ⟨w.heap.size, 4, none⟩ = some (.slice a2 m2 q2) := (by simp [World.cell?, kTw4])
          have g0 : w4.cell? ⟨w1.heap.size, 0, none⟩ = some (.int .i64 u0) := (by simp [World.cell?, k7w4])
          have g1 : w4.cell? ⟨w1.heap.size, 1, none⟩ = some (.string u1) := (by simp [World.cell?, k7w4])
          have g2 : w4.cell? ⟨w1.heap.size, 2, none⟩ = some (.string u2) := (by simp [World.cell?, k7w4])
          have g3 : w4.cell? ⟨w1.heap.size, 3, none⟩ = some (.slice u3 u4 u5) := (by simp [World.cell?, k7w4])
          have g4 : w4.cell? ⟨w1.heap.size, 4, none⟩ = some (.slice u6 u7 u8) := (by simp [World.cell?, k7w4])
          have h0 : w4.cell? ⟨w1.heap.size + 1, 0, none⟩ = some (.int .i64 s0) := (by simp [World.cell?, k8w4])
          have h1 : w4.cell? ⟨w1.heap.size + 1, 1, none⟩ = some (.string s1) := (by simp [World.cell?, k8w4])
          have h2 : w4.cell? ⟨w1.heap.size + 1, 2, none⟩ = some (.string s2) := (by simp [World.cell?, k8w4])
          have h3 : w4.cell? ⟨w1.heap.size + 1, 3, none⟩ = some (.slice s3 s4 s5) := (by simp [World.cell?, k8w4])
          have h4 : w4.cell? ⟨w1.heap.size + 1, 4, none⟩ = some (.slice s6 s7 s8) := (by simp [World.cell?, k8w4])
          have HB4 := Lib.hid (HBZ.out.trans (hb4.mono HBZ.out.size))
          clear hinf hb4 KT K7 K8 kTw4 k7w4 k8w4
          go_wp2_with fail
          go_ret
          exact ⟨rfl, HB4.out⟩
        · go_wp2_with (first | (go_at_call 14; refine hinf.mono ?_; rintro e w4 ⟨hb4, rfl⟩; refine Hid.out ?_))
          refine Lib.hid ?_
          have kTw4 := (hb4.block w.heap.size lT).trans KT
          have k7w4 := (hb4.block (w1.heap.size) lB7).trans K7
          have k8w4 := (hb4.block (w1.heap.size + 1) lB8).trans K8
          have c0 : w4.cell? ⟨w.heap.size, 0, none⟩ = some (.int .i64 kt) := (by simp [World.cell?, kTw4])
          have c1 : w4.cell? ⟨w.heap.size, 1, none⟩ = some (.string pt) := (by simp [World.cell?, kTw4])
          have c2 : w4.cell? ⟨w.heap.size, 2, none⟩ = some (.string nt) := (by simp [World.cell?, kTw4])
          have c3 : w4.cell? ⟨w.heap.size, 3, none⟩ = some (.slice a1 m1 q1) := (by simp [World.cell?, kTw4])
          have c4 : w4.cell? ⟨w.heap.size, 4, none⟩ = some (.slice a2 m2 q2) := (by simp [World.cell?, kTw4])
          have g0 : w4.cell? ⟨w1.heap.size, 0, none⟩ = some (.int .i64 u0) := (by simp [World.cell?, k7w4])
          have g1 : w4.cell? ⟨w1.heap.size, 1, none⟩ = some (.string u1) := (by simp [World.cell?, k7w4])
          have g2 : w4.cell? ⟨w1.heap.size, 2, none⟩ = some (.string u2) := (by simp [World.cell?, k7w4])
          have g3 : w4.cell? ⟨w1.heap.size, 3, none⟩ = some (.slice u3 u4 u5) := (by simp [World.cell?, k7w4])
          have g4 : w4.cell? ⟨w1.heap.size, 4, none⟩ = some (.slice u6 u7 u8) := (by simp [World.cell?, k7w4])
          have h0 : w4.cell? ⟨w1.heap.size + 1, 0, none⟩ = some (.int .i64 s0) := (by simp [World.cell?, k8w4])
          have h1 : w4.cell? ⟨w1.heap.size + 1, 1, none⟩ = some (.string s1) := (by simp [World.cell?, k8w4])
          have h2 : w4.cell? ⟨w1.heap.size + 1, 2, none⟩ = some (.string s2) := (by simp [World.cell?, k8w4])
          have h3 : w4.cell? ⟨w1.heap.size + 1, 3, none⟩ = some (.slice s3 s4 s5) := (by simp [World.cell?, k8w4])
          have h4 : w4.cell? ⟨w1.heap.size + 1, 4, none⟩ = some (.slice s6 s7 s8) := (by simp [World.cell?, k8w4])
          have HB4 := Lib.hid (HBZ.out.trans (hb4.mono HBZ.out.size))
          clear hinf hb4 KT K7 K8 kTw4 k7w4 k8w4
          go_wp2_with fail
          go_ret
          exact ⟨rfl, HB4.out⟩
        · go_wp2_with (first | (go_at_call 14; refine hinf.mono ?_; rintro e w4 ⟨hb4, rfl⟩; refine Hid.out ?_))
          refine Lib.hid ?_
          have kTw4 := (hb4.block w.heap.size lT).trans KT
          have k7w4 := (hb4.block (w1.heap.size) lB7).trans K7
          have k8w4 := (hb4.block (w1.heap.size + 1) lB8).trans K8
          have c0 : w4.cell? ⟨w.heap.size, 0, none⟩ = some (.int .i64 kt) := (by simp [World.cell?, kTw4])
          have c1 : w4.cell? ⟨w.heap.size, 1, none⟩ = some (.string pt) := (by simp [World.cell?, kTw4])
          have c2 : w4.cell? ⟨w.heap.size, 2, none⟩ = some (.string nt) := (by simp [World.cell?, kTw4])
          have c3 : w4.cell? ⟨w.heap.size, 3, none⟩ = some (.slice a1 m1 q1) := (by simp [World.cell?, kTw4])
          have c4 : w4.cell? ⟨w.heap.size, 4, none⟩ = some (.slice a2 m2 q2) := (by simp [World.cell?, kTw4])
          have g0 : w4.cell? ⟨w1.heap.size, 0, none⟩ = some (.int .i64 u0) := (by simp [World.cell?, k7w4])
          have g1 : w4.cell? ⟨w1.heap.size, 1, none⟩ = some (.string u1) := (by simp [World.cell?, k7w4])
          have g2 : w4.cell? ⟨w1.heap.size, 2, none⟩ = some (.string u2) := (by simp [World.cell?, k7w4])
          have g3 : w4.cell? ⟨w1.heap.size, 3, none⟩ = some (.slice u3 u4 u5) := (by simp [World.cell?, k7w4])
          have g4 : w4.cell? ⟨w1.heap.size, 4, none⟩ = some (.slice u6 u7 u8) := (by simp [World.cell?, k7w4])
          have h0 : w4.cell? ⟨w1.heap.size + 1, 0, none⟩ = some (.int .i64 s0) := (by simp [World.cell?, k8w4])
          have h1 : w4.cell? ⟨w1.heap.size + 1, 1, none⟩ = some (.string s1) := (by simp [World.cell?, k8w4])
          have h2 : w4.cell? ⟨w1.heap.size + 1, 2, none⟩ = some (.string s2) := (by simp [World.cell?, k8w4])
          have h3 : w4.cell? ⟨w1.heap.size + 1, 3, none⟩ = some (.slice s3 s4 s5) := (by simp [World.cell?, k8w4])
          have h4 : w4.cell? ⟨w1.heap.size + 1, 4, none⟩ = some (.slice s6 s7 s8) := (by simp [World.cell?, k8w4])
          have HB4 := Lib.hid (HBZ.out.trans (hb4.mono HBZ.out.size))
          clear hinf hb4 KT K7 K8 kTw4 k7w4 k8w4
          go_wp2_with fail
          go_ret
          exact ⟨rfl, HB4.out⟩
  · rw [hg] at hgr
    clear hg
    go_enter Try.func7, Try.ntmps7
    go_wp2_with (first | (go_at_call 12; refine hgr.mono ?_; rintro e w1 ⟨rfl, hb1⟩; have HB1 := Lib.hid (HB0.out.trans (hb1.mono HB0.out.size)); clear hb1) | (go_at_call 13; refine (awake_any _).mono ?_; rintro e w5 ⟨rfl, hb5⟩))
    go_ret
    exact ⟨rfl, HB1.out.trans (hb5.mono HB1.out.size)⟩
end Go.Proofs.Ytcelpmojhjnggaa
