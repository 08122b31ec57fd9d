/- The orderer in memory, and what stores leave of it. -/
import Derived.Test.YtihnmhemhcmmoaaA0
namespace Go.Proofs.Ytihnmhemhcmmoaa
open Go Go.RowKit Go.Maps Go.WideMaps
set_option maxHeartbeats 2000000
set_option maxRecDepth 100000

def ptr (p : Nat) : Value := .pointer (some ⟨p, 0, none⟩)
def pv (ps : List Nat) : Option Nat → Value
  | none => .pointer none
  | some i => ptr (ps.getD i 0)
def wcell (ps : List Nat) (x : Wt) : Array Value := #[.int .i64 x.tc, .int .i64 x.frm, .bool x.done, pv ps x.next]
def flat (l : List Mv) : List Value := l.flatMap (fun m => [.int .i64 m.tc, .int .i64 m.frm])
structure Kit where
  bo : Nat
  mto : Nat
  mwa : Nat
  mre : Nat
  ne : Nat
  ps : List Nat
  toF : Int → Option Nat
  wants : Int → List Nat
  va : Value
  fw : Int → Option Value
structure In (w0 : World) (base : Nat) (K : Kit) (r : Nat) (w : World) (s : MS) : Prop where
  bel : Below base w0 w
  bsz : base ≤ w.heap.size
  pbo : base ≤ K.bo
  pre : base ≤ K.mre
  pps : ∀ p ∈ K.ps, base ≤ p
  len : K.ps.length = s.ws.length
  nd : K.ps.Nodup
  ob : ∃ vo, w.heap[K.bo]? = some (.cells #[K.va, .map (some K.mto), .map (some K.mwa), .map (some K.mre), pv K.ps s.first, pv K.ps s.last, vo] 49) ∧ w.ownsRow base 45 1 K.va K.ps.length (K.ps.map ptr) ∧ w.ownsRow base 31 2 vo s.out.length (flat s.out)
  wt : ∀ (i : Nat) (x : Wt) (p : Nat), s.ws[i]? = some x → K.ps[i]? = some p → w.heap[p]? = some (.cells (wcell K.ps x) 51)
  rd : IM w K.mre r (fun c => (s.reads c).map (Value.int .i64))
  tm : IM w K.mto K.ne (fun c => (K.toF c).map (fun i => pv K.ps (some i)))
  wm : IM w K.mwa K.ne K.fw ∧ ∀ c, (K.fw c = none ∧ K.wants c = []) ∨ ∃ v, K.fw c = some v ∧ w.ownsRow base 45 1 v (K.wants c).length ((K.wants c).map (fun i => pv K.ps (some i)))
  m1 : K.mto ≠ K.mre
  m2 : K.mwa ≠ K.mre
  vf : ∀ i, s.first = some i → i < s.ws.length
  vl : ∀ i, s.last = some i → i < s.ws.length
  vn : ∀ (i : Nat) (x : Wt) (j : Nat), s.ws[i]? = some x → x.next = some j → j < s.ws.length
  vt : ∀ c i, K.toF c = some i → i < s.ws.length
  vw : ∀ c i, i ∈ K.wants c → i < s.ws.length
  fl : s.first.isSome = true → s.last.isSome = true
  i64 : ∀ (i : Nat) (x : Wt), s.ws[i]? = some x → I64 x.tc ∧ I64 x.frm
theorem nd_inj {l : List Nat} (h : l.Nodup) {i j : Nat} (hi : i < l.length) (hj : j < l.length) (e : l[i] = l[j]) : i = j := by
  rcases Nat.lt_trichotomy i j with h1 | h1 | h1
  · exact absurd e (List.pairwise_iff_getElem.1 h i j hi hj h1)
  · exact h1
  · exact absurd e.symm (List.pairwise_iff_getElem.1 h j i hj hi h1)
theorem gset (w : World) (b j : Nat) (v : Value) : w.grownBy (w.setCell ⟨b, j, none⟩ v) (some b) :=
  ⟨rfl, rfl, rfl, by simp [World.setCell], fun k _ hk => Below.heap_setCell _ _ _ _ (fun e => hk (by rw [e]))⟩
theorem setAt {w : World} {X i : Nat} {cs : Array Value} {t : TypeId} {fr : Nat × Nat} (v : Value) (h : w.heap[X]? = some (.cells cs t fr)) : (w.setCell ⟨X, i, none⟩ v).heap[X]? = some (.cells (cs.setIfInBounds i v) t fr) := by
  simp [World.setCell, Array.getElem?_modify, h]
theorem own_kept {w w' : World} {base : Nat} {e : TypeId} {size n b : Nat} {v : Value} {xs : List Value} {o : Obj} (h : w.ownsRow base e size v n xs) (hb : w.heap[b]? = some o) (hne : ∀ cur, o ≠ .cells cur e) (hg : w.grownBy w' (some b)) : w'.ownsRow base e size v n xs := by
  refine h.kept hg ?_
  rcases h.2 with ⟨rfl, _⟩ | ⟨g, cap, cur, rfl, _, hgg, _⟩
  · exact .inl rfl
  · refine .inr (fun e => ?_)
    have : g = b := by simpa [Value.ownBlock] using e
    subst this
    rw [hgg] at hb
    exact hne cur (Option.some.inj hb).symm
theorem im_kept {w w' : World} {m n b : Nat} {f : Int → Option Value} {cs : Array Value} {t : TypeId} {fr : Nat × Nat} (h : IM w m n f) (hb : w.heap[b]? = some (.cells cs t fr)) (hg : w.grownBy w' (some b)) : IM w' m n f := by
  obtain ⟨es, ck, hm⟩ := h.block
  refine h.kept hg (fun e => ?_)
  obtain rfl := Option.some.inj e
  rw [hm] at hb
  cases hb
theorem blk_kept {w w' : World} {a b : Nat} {cs : Array Value} {t : TypeId} {fr : Nat × Nat} {o : Obj} (h : w.heap[a]? = some (.cells cs t fr)) (hb : w.heap[b]? = some o) (hne : ∀ cur, o ≠ .cells cur t fr) (hg : w.grownBy w' (some b)) : w'.heap[a]? = some (.cells cs t fr) := by
  refine (hg.block a (Array.getElem?_eq_some_iff.1 h).1 (fun e => ?_)).trans h
  obtain rfl := Option.some.inj e
  rw [h] at hb
  exact hne cs (Option.some.inj hb).symm
theorem wm_kept {w w' : World} {base m n b : Nat} {K : Kit} {o : Obj} (h : IM w m n K.fw ∧ ∀ c, (K.fw c = none ∧ K.wants c = []) ∨ ∃ v, K.fw c = some v ∧ w.ownsRow base 45 1 v (K.wants c).length ((K.wants c).map (fun i => pv K.ps (some i)))) (hb : w.heap[b]? = some o) (hne : ∀ cur, o ≠ .cells cur 45) (hg : w.grownBy w' (some b)) (him : ∀ f, IM w m n f → IM w' m n f) :
    IM w' m n K.fw ∧ ∀ c, (K.fw c = none ∧ K.wants c = []) ∨ ∃ v, K.fw c = some v ∧ w'.ownsRow base 45 1 v (K.wants c).length ((K.wants c).map (fun i => pv K.ps (some i))) := by
  obtain ⟨h1, h2⟩ := h
  refine ⟨him _ h1, fun c => ?_⟩
  rcases h2 c with h | ⟨v, h3, h4⟩
  · exact .inl h
  · exact .inr ⟨v, h3, own_kept h4 hb hne hg⟩
theorem MS.wt_get {s : MS} {i : Nat} (h : i < s.ws.length) : s.ws[i]? = some (s.wt i) := by
  unfold MS.wt
  rw [List.getD_eq_getElem?_getD, List.getElem?_eq_getElem h]; rfl
theorem MS.setW_get {s : MS} {i j : Nat} {x y : Wt} (h : (s.setW i x).ws[j]? = some y) : (j = i ∧ y = x) ∨ (j ≠ i ∧ s.ws[j]? = some y) := by
  unfold MS.setW at h
  simp only [List.getElem?_set] at h
  by_cases hj : i = j
  · subst hj
    rw [if_pos rfl] at h
    split at h
    · exact .inl ⟨rfl, (Option.some.inj h).symm⟩
    · cases h
  · rw [if_neg hj] at h
    exact .inr ⟨fun e => hj e.symm, h⟩
/-- a cell of a copy that waits is stored -/
theorem In.setWt {w0 w : World} {base r : Nat} {K : Kit} {s : MS} (h : In w0 base K r w s) {i p : Nat} (hi : i < s.ws.length) (hp : K.ps[i]? = some p) (j : Nat) (v : Value) (x : Wt) (hx : (wcell K.ps (s.wt i)).setIfInBounds j v = wcell K.ps x) (hn : ∀ l, x.next = some l → l < s.ws.length) (h6 : I64 x.tc ∧ I64 x.frm) :
    In w0 base K r (w.setCell ⟨p, j, none⟩ v) (s.setW i x) := by
  have hpb := h.pps p (List.mem_of_getElem? hp)
  have hb := h.wt i _ p (MS.wt_get hi) hp
  have hg := gset w p j v
  have hl : (s.setW i x).ws.length = s.ws.length := by simp [MS.setW]
  obtain ⟨vo, h1, h2, h3⟩ := h.ob
  refine ⟨h.bel.setCell hpb _, by simpa [World.setCell] using h.bsz, h.pbo, h.pre, h.pps, by rw [hl]; exact h.len, h.nd, ⟨vo, blk_kept h1 hb (fun _ e => by cases e) hg, own_kept h2 hb (fun _ e => by cases e) hg, own_kept h3 hb (fun _ e => by cases e) hg⟩, ?_, im_kept h.rd hb hg, im_kept h.tm hb hg, wm_kept h.wm hb (fun _ e => by cases e) hg (fun f hf => im_kept hf hb hg), h.m1, h.m2, by rw [hl]; exact h.vf, by rw [hl]; exact h.vl, ?_, by rw [hl]; exact h.vt, by rw [hl]; exact h.vw, h.fl, ?_⟩
  · intro k y q hy hq
    rcases MS.setW_get hy with ⟨rfl, rfl⟩ | ⟨hk, hy⟩
    · rw [hp] at hq
      obtain rfl := Option.some.inj hq
      rw [setAt v hb, hx]
    · have hqk := h.wt k y q hy hq
      refine (hg.block q (Array.getElem?_eq_some_iff.1 hqk).1 (fun e => hk ?_)).trans hqk
      obtain rfl := Option.some.inj e
      have h1 := List.getElem?_eq_some_iff.1 hp
      have h2 := List.getElem?_eq_some_iff.1 hq
      obtain ⟨a1, a2⟩ := h1
      obtain ⟨b1, b2⟩ := h2
      exact nd_inj h.nd b1 a1 (b2.trans a2.symm)
  · intro k y l hy hl2
    rw [hl]
    rcases MS.setW_get hy with ⟨rfl, rfl⟩ | ⟨hk, hy⟩
    · exact hn l hl2
    · exact h.vn k y l hy hl2
  · intro k y hy
    rcases MS.setW_get hy with ⟨rfl, rfl⟩ | ⟨hk, hy⟩
    · exact h6
    · exact h.i64 k y hy
/-- the head of the row that waits is stored -/
theorem In.setFirst {w0 w : World} {base r : Nat} {K : Kit} {s : MS} (h : In w0 base K r w s) (f : Option Nat) (hf : ∀ i, f = some i → i < s.ws.length) (hfl : f.isSome = true → s.last.isSome = true) : In w0 base K r (w.setCell ⟨K.bo, 4, none⟩ (pv K.ps f)) { s with first := f } := by
  obtain ⟨vo, h1, h2, h3⟩ := h.ob
  have hg := gset w K.bo 4 (pv K.ps f)
  exact ⟨h.bel.setCell h.pbo _, by simpa [World.setCell] using h.bsz, h.pbo, h.pre, h.pps, h.len, h.nd, ⟨vo, setAt _ h1, own_kept h2 h1 (fun _ e => by cases e) hg, own_kept h3 h1 (fun _ e => by cases e) hg⟩, fun i x p hx hp => blk_kept (h.wt i x p hx hp) h1 (fun _ e => by cases e) hg, im_kept h.rd h1 hg, im_kept h.tm h1 hg, wm_kept h.wm h1 (fun _ e => by cases e) hg (fun f hf => im_kept hf h1 hg), h.m1, h.m2, hf, h.vl, h.vn, h.vt, h.vw, hfl, h.i64⟩
theorem In.setLast {w0 w : World} {base r : Nat} {K : Kit} {s : MS} (h : In w0 base K r w s) (i : Nat) (hi : i < s.ws.length) : In w0 base K r (w.setCell ⟨K.bo, 5, none⟩ (pv K.ps (some i))) { s with last := some i } := by
  obtain ⟨vo, h1, h2, h3⟩ := h.ob
  have hg := gset w K.bo 5 (pv K.ps (some i))
  exact ⟨h.bel.setCell h.pbo _, by simpa [World.setCell] using h.bsz, h.pbo, h.pre, h.pps, h.len, h.nd, ⟨vo, setAt _ h1, own_kept h2 h1 (fun _ e => by cases e) hg, own_kept h3 h1 (fun _ e => by cases e) hg⟩, fun i x p hx hp => blk_kept (h.wt i x p hx hp) h1 (fun _ e => by cases e) hg, im_kept h.rd h1 hg, im_kept h.tm h1 hg, wm_kept h.wm h1 (fun _ e => by cases e) hg (fun f hf => im_kept hf h1 hg), h.m1, h.m2, h.vf, fun j hj => by cases hj; exact hi, h.vn, h.vt, h.vw, fun _ => rfl, h.i64⟩
/-- the head and the last of the row that waits are stored at once -/
theorem In.setBoth {w0 w : World} {base r : Nat} {K : Kit} {s : MS} (h : In w0 base K r w s) (i : Nat) (hi : i < s.ws.length) : In w0 base K r ((w.setCell ⟨K.bo, 4, none⟩ (pv K.ps (some i))).setCell ⟨K.bo, 5, none⟩ (pv K.ps (some i))) { s with first := some i, last := some i } := by
  obtain ⟨vo, h1, h2, h3⟩ := h.ob
  have hg := gset w K.bo 4 (pv K.ps (some i))
  have hg' := gset (w.setCell ⟨K.bo, 4, none⟩ (pv K.ps (some i))) K.bo 5 (pv K.ps (some i))
  have hgg := hg.trans hg'
  exact ⟨(h.bel.setCell h.pbo _).setCell h.pbo _, by simpa [World.setCell] using h.bsz, h.pbo, h.pre, h.pps, h.len, h.nd, ⟨vo, setAt _ (setAt _ h1), own_kept h2 h1 (fun _ e => by cases e) hgg, own_kept h3 h1 (fun _ e => by cases e) hgg⟩, fun i x p hx hp => blk_kept (h.wt i x p hx hp) h1 (fun _ e => by cases e) hgg, im_kept h.rd h1 hgg, im_kept h.tm h1 hgg, wm_kept h.wm h1 (fun _ e => by cases e) hgg (fun f hf => im_kept hf h1 hgg), h.m1, h.m2, fun j hj => by cases hj; exact hi, fun j hj => by cases hj; exact hi, h.vn, h.vt, h.vw, fun _ => rfl, h.i64⟩
/-- the map of those that wait to read is stored into -/
theorem In.setRead {w0 w w' : World} {base r : Nat} {K : Kit} {s : MS} (h : In w0 base K r w s) (c v : Int) (hm : IM w' K.mre (r + 1) (updI (fun c => (s.reads c).map (Value.int .i64)) c (some (.int .i64 v)))) (hg : w.grownBy w' (some K.mre)) : In w0 base K (r + 1) w' { s with reads := updI s.reads c (some v) } := by
  obtain ⟨vo, h1, h2, h3⟩ := h.ob
  obtain ⟨es, ck, hb⟩ := h.rd.block
  refine ⟨h.bel.grown hg h.bsz (fun k hk => by obtain rfl := Option.some.inj hk; exact h.pre), Nat.le_trans h.bsz hg.size, h.pbo, h.pre, h.pps, h.len, h.nd, ⟨vo, blk_kept h1 hb (fun _ e => by cases e) hg, own_kept h2 hb (fun _ e => by cases e) hg, own_kept h3 hb (fun _ e => by cases e) hg⟩, fun i x p hx hp => blk_kept (h.wt i x p hx hp) hb (fun _ e => by cases e) hg, ?_, h.tm.kept hg (fun e => h.m1 (Option.some.inj e)), wm_kept h.wm hb (fun _ e => by cases e) hg (fun f hf => hf.kept hg (fun e => h.m2 (Option.some.inj e))), h.m1, h.m2, h.vf, h.vl, h.vn, h.vt, h.vw, h.fl, h.i64⟩
  have : (fun x => ((updI s.reads c (some v)) x).map (Value.int .i64)) = updI (fun c => (s.reads c).map (Value.int .i64)) c (some (.int .i64 v)) := by
    funext x
    unfold updI
    split <;> rfl
  show IM w' K.mre (r + 1) (fun x => ((updI s.reads c (some v)) x).map (Value.int .i64))
  rw [this]; exact hm
/-- the world grows, or draws -/
theorem In.grow {w0 w w' : World} {base r : Nat} {K : Kit} {s : MS} (h : In w0 base K r w s) (hb : Below w.heap.size w w') : In w0 base K r w' s := by
  have hg : w.grownBy w' none := ⟨hb.os, hb.tape, hb.output, hb.size, fun k hk _ => hb.block k hk⟩
  obtain ⟨vo, h1, h2, h3⟩ := h.ob
  have hn : ∀ v : Value, v.ownBlock = none ∨ v.ownBlock ≠ none := fun v => by cases v.ownBlock <;> simp
  have hr : ∀ {e : TypeId} {size n : Nat} {v : Value} {xs : List Value}, w.ownsRow base e size v n xs → w'.ownsRow base e size v n xs := fun h => h.kept hg (hn _)
  refine ⟨h.bel.trans (hb.mono h.bsz), Nat.le_trans h.bsz hb.size, h.pbo, h.pre, h.pps, h.len, h.nd, ⟨vo, (hb.block _ (Array.getElem?_eq_some_iff.1 h1).1).trans h1, hr h2, hr h3⟩, fun i x p hx hp => ?_, h.rd.kept hg (by simp), h.tm.kept hg (by simp), ?_, h.m1, h.m2, h.vf, h.vl, h.vn, h.vt, h.vw, h.fl, h.i64⟩
  · have := h.wt i x p hx hp
    exact (hb.block _ (Array.getElem?_eq_some_iff.1 this).1).trans this
  · obtain ⟨h4, h5⟩ := h.wm
    refine ⟨h4.kept hg (by simp), fun c => ?_⟩
    rcases h5 c with h | ⟨v, h6, h7⟩
    · exact .inl h
    · exact .inr ⟨v, h6, hr h7⟩
theorem In.mono {w0 w : World} {base r r' : Nat} {K : Kit} {s : MS} (h : In w0 base K r w s) (hr : r ≤ r') : In w0 base K r' w s := { h with rd := h.rd.mono hr }
end Go.Proofs.Ytihnmhemhcmmoaa
