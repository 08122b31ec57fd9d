/- The orderer in memory while it is laid out. -/
import Derived.Test.YtihnmhemhcmmoaaA5
namespace Go.Proofs.Ytihnmhemhcmmoaa
open Go Go.RowKit Go.Maps Go.WideMaps
set_option maxHeartbeats 2000000
set_option maxRecDepth 100000

structure BIn (w0 : World) (base bo mto mwa mre : Nat) (ps : List Nat) (n : Nat) (w : World) (b : BS) : Prop where
  bel : Below base w0 w
  bsz : base ≤ w.heap.size
  pbo : base ≤ bo
  pm1 : base ≤ mto
  pm2 : base ≤ mwa
  pm3 : base ≤ mre
  pps : ∀ p ∈ ps, base ≤ p
  len : ps.length = b.ws.length
  nd : ps.Nodup
  ob : ∃ va fw, w.heap[bo]? = some (.cells #[va, .map (some mto), .map (some mwa), .map (some mre), .pointer none, .pointer none, .slice none 0 0] 49) ∧ w.ownsRow base 45 1 va ps.length (ps.map ptr) ∧ IM w mwa n fw ∧
    (∀ c, (fw c = none ∧ b.wants c = []) ∨ ∃ v, fw c = some v ∧ w.ownsRow base 45 1 v (b.wants c).length ((b.wants c).map (fun i => pv ps (some i)))) ∧
    (∀ c v g, fw c = some v → v.ownBlock = some g → va.ownBlock ≠ some g) ∧
    (∀ c c' v v' g, fw c = some v → fw c' = some v' → c ≠ c' → v.ownBlock = some g → v'.ownBlock ≠ some g)
  wt : ∀ (i : Nat) (x : Wt) (p : Nat), b.ws[i]? = some x → ps[i]? = some p → w.heap[p]? = some (.cells (wcell ps x) 51)
  rd : IM w mre n (fun c => (b.reads c).map (Value.int .i64))
  tm : IM w mto n (fun c => (b.toF c).map (fun i => pv ps (some i)))
  m1 : mto ≠ mre
  m2 : mwa ≠ mre
  m3 : mto ≠ mwa
  nx : ∀ (i : Nat) (x : Wt), b.ws[i]? = some x → x.next = none
  vt : ∀ c i, b.toF c = some i → i < b.ws.length
  vw : ∀ c i, i ∈ b.wants c → i < b.ws.length
  i64 : ∀ (i : Nat) (x : Wt), b.ws[i]? = some x → I64 x.tc ∧ I64 x.frm
variable {w0 w w' : World} {base bo mto mwa mre n : Nat} {ps : List Nat} {b : BS}
theorem BIn.mono (h : BIn w0 base bo mto mwa mre ps n w b) {n' : Nat} (hn : n ≤ n') : BIn w0 base bo mto mwa mre ps n' w b := by
  obtain ⟨va, fw, h1, h2, h3, h4⟩ := h.ob
  exact { h with ob := ⟨va, fw, h1, h2, h3.mono hn, h4⟩, rd := h.rd.mono hn, tm := h.tm.mono hn }
theorem pv_more (ps qs : List Nat) {i : Nat} (hi : i < ps.length) : pv (ps ++ qs) (some i) = pv ps (some i) := by
  unfold pv
  simp [List.getD_eq_getElem?_getD, List.getElem?_append_left hi]
theorem own_any {v : Value} {k : Nat} {xs : List Value} (h : w.ownsRow base 45 1 v k xs) (hb : Below w.heap.size w w') : w'.ownsRow base 45 1 v k xs :=
  h.kept (row := none) ⟨hb.os, hb.tape, hb.output, hb.size, fun k hk _ => hb.block k hk⟩ (by cases hv : v.ownBlock <;> simp)
theorem im_any {m k : Nat} {f : Int → Option Value} (h : IM w m k f) (hb : Below w.heap.size w w') : IM w' m k f :=
  h.kept (row := none) ⟨hb.os, hb.tape, hb.output, hb.size, fun k hk _ => hb.block k hk⟩ (by simp)
theorem BIn.grow (h : BIn w0 base bo mto mwa mre ps n w b) (hb : Below w.heap.size w w') : BIn w0 base bo mto mwa mre ps n w' b := by
  obtain ⟨va, fw, h1, h2, h3, h4, h5, h6⟩ := h.ob
  exact { h with
    bel := h.bel.trans (hb.mono h.bsz)
    bsz := Nat.le_trans h.bsz hb.size
    ob := ⟨va, fw, (hb.block _ (lt_of h1)).trans h1, own_any h2 hb, im_any h3 hb, fun c => by
      rcases h4 c with h | ⟨v, h7, h8⟩
      · exact .inl h
      · exact .inr ⟨v, h7, own_any h8 hb⟩, h5, h6⟩
    wt := fun i x p hx hp => (hb.block _ (lt_of (h.wt i x p hx hp))).trans (h.wt i x p hx hp)
    rd := im_any h.rd hb
    tm := im_any h.tm hb }
/-- a copy that waits is laid behind the others -/
theorem BIn.addWait (h : BIn w0 base bo mto mwa mre ps n w b) (t f : Int) (h6 : I64 t ∧ I64 f) {p : Nat} (hp : w.heap[p]? = some (.cells #[.int .i64 t, .int .i64 f, .bool false, .pointer none] 51)) (hpb : base ≤ p) (hpn : ∀ q ∈ ps, q ≠ p)
    {ao : Option Addr} {c : Nat} (hv : w.cell? ⟨bo, 0, none⟩ = some (.slice ao ps.length c)) {v2 : Value} {w2 : World} (ho : w2.ownsRow base 45 1 v2 (ps.length + 1) (ps.map ptr ++ [ptr p])) (hg : w.grownBy w2 (Value.slice ao ps.length c).ownBlock)
    (hat : ∀ g, v2.ownBlock = some g → (Value.slice ao ps.length c).ownBlock = some g ∨ w.heap.size ≤ g) :
    w2.cell? ⟨bo, 0, none⟩ = some (.slice ao ps.length c) ∧ bo < w2.heap.size ∧ (∀ i, w2.frozen? ⟨bo, i, none⟩ = false) ∧ BIn w0 base bo mto mwa mre (ps ++ [p]) n (w2.setCell ⟨bo, 0, none⟩ v2) { b with ws := b.ws ++ [⟨t, f, false, none⟩] } := by
  obtain ⟨va, fw, h1, h2, h3, h4, h5, h7⟩ := h.ob
  have hvo : va = .slice ao ps.length c := by
    have h6 : w.cell? ⟨bo, 0, none⟩ = some va := cell_of h1 rfl
    rw [hv] at h6
    exact (Option.some.inj h6).symm
  subst hvo
  have hrow : ∀ b, (Value.slice ao ps.length c).ownBlock = some b → base ≤ b ∧ ∃ cur, w.heap[b]? = some (.cells cur 45) := fun b hb => own_block h2 hb
  have hbk : ∀ {a : Nat} {cs : Array Value} {t : TypeId}, t ≠ 45 → w.heap[a]? = some (.cells cs t) → w2.heap[a]? = some (.cells cs t) := by
    intro a cs t ht ha
    refine (hg.block a (lt_of ha) (fun e => ?_)).trans ha
    obtain ⟨_, cur, hc⟩ := hrow a e.symm
    rw [ha] at hc
    simp only [Option.some.injEq, Obj.cells.injEq] at hc
    exact ht hc.2.1
  have him : ∀ {b n : Nat} {f : Int → Option Value}, IM w b n f → IM w2 b n f := by
    intro b n f hf
    obtain ⟨es, ck, hb⟩ := hf.block
    refine hf.kept hg (fun e => ?_)
    obtain ⟨_, cur, hc⟩ := hrow b e.symm
    rw [hb] at hc
    cases hc
  have hbo := hbk (by decide) h1
  have hg2 := gset w2 bo 0 v2
  have hl := h.len
  refine ⟨cell_of hbo rfl, lt_of hbo, thaw_of hbo, ?_⟩
  have hfl : (fun c => (b.toF c).map (fun i => pv (ps ++ [p]) (some i))) = (fun c => (b.toF c).map (fun i => pv ps (some i))) := by
    funext c
    cases hc : b.toF c with
    | none => rfl
    | some i => simp [pv_more ps [p] (show i < ps.length by rw [hl]; exact h.vt c i hc)]
  have hwl : ∀ c, (b.wants c).map (fun i => pv (ps ++ [p]) (some i)) = (b.wants c).map (fun i => pv ps (some i)) := by
    intro c
    apply List.map_congr_left
    intro i hi
    exact pv_more ps [p] (by rw [hl]; exact h.vw c i hi)
  refine ⟨(h.bel.grown hg h.bsz (fun k hk => (hrow k (by rw [← hk])).1)).setCell h.pbo _, by have := hg.size; have := h.bsz; simp [World.setCell]; omega, h.pbo, h.pm1, h.pm2, h.pm3, ?_, by simp [hl], ?_, ⟨v2, fw, setAt _ hbo, ?_, im_kept (him h3) hbo hg2, ?_, ?_, h7⟩, ?_, im_kept (him h.rd) hbo hg2, ?_, h.m1, h.m2, h.m3, ?_, fun c i hc => ?_, fun c i hc => ?_, ?_⟩
  · intro q hq
    rcases List.mem_append.1 hq with hq | hq
    · exact h.pps q hq
    · simp at hq; subst hq; exact hpb
  · rw [List.nodup_append]
    exact ⟨h.nd, by simp, fun a ha b hb => by simp at hb; subst hb; exact hpn a ha⟩
  · have := own_kept ho hbo (fun _ e => by cases e) hg2
    simpa using this
  · intro c
    rcases h4 c with h8 | ⟨v, h8, h9⟩
    · exact .inl h8
    · refine .inr ⟨v, h8, ?_⟩
      rw [hwl c]
      refine own_kept (h9.kept hg ?_) hbo (fun _ e => by cases e) hg2
      cases hvb : v.ownBlock with
      | none => exact .inl rfl
      | some g => exact .inr (fun e => h5 c v g h8 hvb e.symm)
  · intro c v g hc hvb hv2
    rcases hat g hv2 with h8 | h8
    · exact h5 c v g hc hvb h8
    · rcases h4 c with ⟨h9, _⟩ | ⟨v', h9, h10⟩
      · rw [hc] at h9; cases h9
      · rw [hc] at h9
        obtain rfl := Option.some.inj h9
        have := (h10.lt g hvb).2
        omega
  · intro i x q hx hq
    have key : ∀ y : Wt, y.next = none → wcell (ps ++ [p]) y = wcell ps y := by
      intro y hy
      unfold wcell
      rw [hy]; rfl
    by_cases hi : i < b.ws.length
    · rw [List.getElem?_append_left hi] at hx
      rw [List.getElem?_append_left (by rw [hl]; exact hi)] at hq
      rw [key x (h.nx i x hx)]
      exact blk_kept (hbk (by decide) (h.wt i x q hx hq)) hbo (fun _ e => by cases e) hg2
    · have hxl := (List.getElem?_eq_some_iff.1 hx).1
      simp at hxl
      have hii : i = b.ws.length := by omega
      subst hii
      rw [List.getElem?_append_right (by omega)] at hx
      rw [List.getElem?_append_right (by omega)] at hq
      simp at hx
      simp [hl] at hq
      subst hx hq
      exact blk_kept (hbk (by decide) hp) hbo (fun _ e => by cases e) hg2
  · show IM _ mto n (fun c => (b.toF c).map (fun i => pv (ps ++ [p]) (some i)))
    rw [hfl]
    exact im_kept (him h.tm) hbo hg2
  · intro i x hx
    by_cases hi : i < b.ws.length
    · rw [List.getElem?_append_left hi] at hx
      exact h.nx i x hx
    · rw [List.getElem?_append_right (by omega)] at hx
      cases hz : i - b.ws.length with
      | zero => rw [hz] at hx; simp at hx; subst hx; rfl
      | succ k => rw [hz] at hx; simp at hx
  · have := h.vt c i hc; simp; omega
  · have := h.vw c i hc; simp; omega
  · intro i x hx
    by_cases hi : i < b.ws.length
    · rw [List.getElem?_append_left hi] at hx
      exact h.i64 i x hx
    · rw [List.getElem?_append_right (by omega)] at hx
      cases hz : i - b.ws.length with
      | zero => rw [hz] at hx; simp at hx; subst hx; exact h6
      | succ k => rw [hz] at hx; simp at hx
end Go.Proofs.Ytihnmhemhcmmoaa
