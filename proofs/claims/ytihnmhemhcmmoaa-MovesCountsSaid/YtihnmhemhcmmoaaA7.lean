/- The orderer in memory while it is laid out: its maps. -/
import Derived.Test.YtihnmhemhcmmoaaA6
namespace Go.Proofs.Ytihnmhemhcmmoaa
open Go Go.RowKit Go.Maps Go.WideMaps
set_option maxHeartbeats 2000000
set_option maxRecDepth 100000
variable {w0 w w' : World} {base bo mto mwa mre n : Nat} {ps : List Nat} {b : BS}

theorem BIn.turned (h : BIn w0 base bo mto mwa mre ps n w b) {m : Nat} {f : Int → Option Value} (hm : IM w m n f) (hg : w.grownBy w' (some m)) (hb : base ≤ m) :
    Below base w0 w' ∧ base ≤ w'.heap.size ∧ (∀ (a : Nat) (cs : Array Value) (t : TypeId), w.heap[a]? = some (.cells cs t) → w'.heap[a]? = some (.cells cs t)) ∧ (∀ {e : TypeId} {size k : Nat} {v : Value} {xs : List Value}, w.ownsRow base e size v k xs → w'.ownsRow base e size v k xs) := by
  obtain ⟨es, ck, hmb⟩ := hm.block
  exact ⟨h.bel.grown hg h.bsz (fun k hk => by obtain rfl := Option.some.inj hk; exact hb), Nat.le_trans h.bsz hg.size, fun a cs t ha => blk_kept ha hmb (fun _ e => by cases e) hg, fun hr => own_kept hr hmb (fun _ e => by cases e) hg⟩
theorem BIn.setTo (h : BIn w0 base bo mto mwa mre ps n w b) (c : Int) (i : Nat) (hi : i < b.ws.length) (hm : IM w' mto (n + 1) (updI (fun c => (b.toF c).map (fun i => pv ps (some i))) c (some (pv ps (some i))))) (hg : w.grownBy w' (some mto)) :
    BIn w0 base bo mto mwa mre ps (n + 1) w' { b with toF := updI b.toF c (some i) } := by
  obtain ⟨k1, k2, k3, k4⟩ := h.turned h.tm hg h.pm1
  obtain ⟨va, fw, h1, h2, h3, h4, h5, h6⟩ := h.ob
  refine { h with
    bel := k1
    bsz := k2
    ob := ⟨va, fw, k3 _ _ _ h1, k4 h2, (h3.kept hg (fun e => h.m3 (Option.some.inj e).symm)).mono (by omega), fun c => by
      rcases h4 c with h | ⟨v, h7, h8⟩
      · exact .inl h
      · exact .inr ⟨v, h7, k4 h8⟩, h5, h6⟩
    wt := fun i x p hx hp => k3 _ _ _ (h.wt i x p hx hp)
    rd := (h.rd.kept hg (fun e => h.m1 (Option.some.inj e).symm)).mono (by omega)
    tm := ?_
    vt := ?_ }
  · have e : (fun x => (updI b.toF c (some i) x).map (fun i => pv ps (some i))) = updI (fun c => (b.toF c).map (fun i => pv ps (some i))) c (some (pv ps (some i))) := by
      funext x
      unfold updI
      split <;> rfl
    show IM w' mto (n + 1) (fun x => (updI b.toF c (some i) x).map (fun i => pv ps (some i)))
    rw [e]; exact hm
  · intro x j hx
    replace hx : updI b.toF c (some i) x = some j := hx
    unfold updI at hx
    split at hx
    · cases hx; exact hi
    · exact h.vt x j hx
theorem BIn.setRd (h : BIn w0 base bo mto mwa mre ps n w b) (c v : Int) (hm : IM w' mre (n + 1) (updI (fun c => (b.reads c).map (Value.int .i64)) c (some (.int .i64 v)))) (hg : w.grownBy w' (some mre)) :
    BIn w0 base bo mto mwa mre ps (n + 1) w' { b with reads := updI b.reads c (some v) } := by
  obtain ⟨k1, k2, k3, k4⟩ := h.turned h.rd hg h.pm3
  obtain ⟨va, fw, h1, h2, h3, h4, h5, h6⟩ := h.ob
  refine { h with
    bel := k1
    bsz := k2
    ob := ⟨va, fw, k3 _ _ _ h1, k4 h2, (h3.kept hg (fun e => h.m2 (Option.some.inj e))).mono (by omega), fun c => by
      rcases h4 c with h | ⟨v, h7, h8⟩
      · exact .inl h
      · exact .inr ⟨v, h7, k4 h8⟩, h5, h6⟩
    wt := fun i x p hx hp => k3 _ _ _ (h.wt i x p hx hp)
    rd := ?_
    tm := (h.tm.kept hg (fun e => h.m1 (Option.some.inj e))).mono (by omega) }
  have e : (fun x => (updI b.reads c (some v) x).map (Value.int .i64)) = updI (fun c => (b.reads c).map (Value.int .i64)) c (some (.int .i64 v)) := by
    funext x
    unfold updI
    split <;> rfl
  show IM w' mre (n + 1) (fun x => (updI b.reads c (some v) x).map (Value.int .i64))
  rw [e]; exact hm
theorem BIn.want (h : BIn w0 base bo mto mwa mre ps n w b) (c : Int) (i : Nat) (hi : i < b.ws.length) : ∃ fw ao cc, IM w mwa n fw ∧ (fw c).getD (.slice none 0 0) = .slice ao (b.wants c).length cc ∧ w.ownsRow base 45 1 (.slice ao (b.wants c).length cc) (b.wants c).length ((b.wants c).map (fun i => pv ps (some i))) ∧
    ∀ (v2 : Value) (w2 : World), w2.ownsRow base 45 1 v2 ((b.wants c).length + 1) ((b.wants c).map (fun i => pv ps (some i)) ++ [pv ps (some i)]) → w.grownBy w2 (Value.slice ao (b.wants c).length cc).ownBlock → (∀ g, v2.ownBlock = some g → (Value.slice ao (b.wants c).length cc).ownBlock = some g ∨ w.heap.size ≤ g) →
      IM w2 mwa n fw ∧ (∀ (a : Nat) (cs : Array Value) (t : TypeId), t ≠ 45 → w.heap[a]? = some (.cells cs t) → w2.heap[a]? = some (.cells cs t)) ∧
      ∀ w3, IM w3 mwa (n + 1) (updI fw c (some v2)) → w2.grownBy w3 (some mwa) → BIn w0 base bo mto mwa mre ps (n + 1) w3 { b with wants := updI b.wants c (b.wants c ++ [i]) } := by
  obtain ⟨va, fw, h1, h2, h3, h4, h5, h6⟩ := h.ob
  have hv : ∃ v, (fw c).getD (.slice none 0 0) = v ∧ w.ownsRow base 45 1 v (b.wants c).length ((b.wants c).map (fun i => pv ps (some i))) ∧ ((fw c = none ∧ v = .slice none 0 0) ∨ fw c = some v) := by
    rcases h4 c with ⟨h7, h8⟩ | ⟨v, h7, h8⟩
    · exact ⟨_, by rw [h7]; rfl, by rw [h8]; exact World.ownsRow_nil _ _ _ _, .inl ⟨h7, rfl⟩⟩
    · exact ⟨v, by rw [h7]; rfl, h8, .inr h7⟩
  obtain ⟨v, hv1, hv2, hv3⟩ := hv
  obtain ⟨ao, cc, rfl⟩ := own_shape hv2
  refine ⟨fw, ao, cc, h3, hv1, hv2, fun v2 w2 ho hg hat => ?_⟩
  have hrow : ∀ b', (Value.slice ao (b.wants c).length cc).ownBlock = some b' → base ≤ b' ∧ ∃ cur, w.heap[b']? = some (.cells cur 45) := fun b' hb => own_block hv2 hb
  have hfc : ∀ g, (Value.slice ao (b.wants c).length cc).ownBlock = some g → fw c = some (Value.slice ao (b.wants c).length cc) := by
    intro g hg
    rcases hv3 with ⟨_, e⟩ | e
    · rw [e] at hg; cases hg
    · exact e
  have hbk : ∀ (a : Nat) (cs : Array Value) (t : TypeId), t ≠ 45 → w.heap[a]? = some (.cells cs t) → w2.heap[a]? = some (.cells cs t) := by
    intro a cs t ht ha
    refine (hg.block a (lt_of ha) (fun e => ?_)).trans ha
    obtain ⟨_, cur, hc⟩ := hrow a e.symm
    rw [ha] at hc
    simp only [Option.some.injEq, Obj.cells.injEq] at hc
    exact ht hc.2.1
  have him : ∀ {b n : Nat} {f : Int → Option Value}, IM w b n f → IM w2 b n f := by
    intro b n f hf
    obtain ⟨es, ck, hb⟩ := hf.block
    refine hf.kept hg (fun e => ?_)
    obtain ⟨_, cur, hc⟩ := hrow b e.symm
    rw [hb] at hc
    cases hc
  refine ⟨him h3, hbk, fun w3 hm3 hg3 => ?_⟩
  obtain ⟨es, ck, hmb⟩ := (him h3).block
  have k3 : ∀ (a : Nat) (cs : Array Value) (t : TypeId), w2.heap[a]? = some (.cells cs t) → w3.heap[a]? = some (.cells cs t) := fun a cs t ha => blk_kept ha hmb (fun _ e => by cases e) hg3
  have k4 : ∀ {e : TypeId} {size k : Nat} {v : Value} {xs : List Value}, w2.ownsRow base e size v k xs → w3.ownsRow base e size v k xs := fun hr => own_kept hr hmb (fun _ e => by cases e) hg3
  have hva : w2.ownsRow base 45 1 va ps.length (ps.map ptr) := by
    refine h2.kept hg ?_
    cases hvb : va.ownBlock with
    | none => exact .inl rfl
    | some g => exact .inr (fun e => h5 c _ g (hfc g e.symm) e.symm hvb)
  refine { h with
    bel := (h.bel.grown hg h.bsz (fun k hk => (hrow k (by rw [← hk])).1)).grown hg3 (Nat.le_trans h.bsz hg.size) (fun k hk => by obtain rfl := Option.some.inj hk; exact h.pm2)
    bsz := Nat.le_trans (Nat.le_trans h.bsz hg.size) hg3.size
    ob := ⟨va, updI fw c (some v2), k3 _ _ _ (hbk _ _ _ (by decide) h1), k4 hva, hm3, fun x => ?_, ?_, ?_⟩
    wt := fun i x p hx hp => k3 _ _ _ (hbk _ _ _ (by decide) (h.wt i x p hx hp))
    rd := ((him h.rd).kept hg3 (fun e => h.m2 (Option.some.inj e).symm)).mono (by omega)
    tm := ((him h.tm).kept hg3 (fun e => h.m3 (Option.some.inj e))).mono (by omega)
    vw := ?_ }
  · by_cases hx : x = c
    · subst hx
      refine .inr ⟨v2, by simp [updI], ?_⟩
      have := k4 ho
      simpa [updI] using this
    · rcases h4 x with h7 | ⟨v, h7, h8⟩
      · exact .inl (by simpa [updI, hx] using h7)
      · refine .inr ⟨v, by simpa [updI, hx] using h7, ?_⟩
        have h9 : w2.ownsRow base 45 1 v (b.wants x).length ((b.wants x).map (fun i => pv ps (some i))) := by
          refine h8.kept hg ?_
          cases hvb : v.ownBlock with
          | none => exact .inl rfl
          | some g => exact .inr (fun e => h6 x c v _ g h7 (hfc g e.symm) hx hvb e.symm)
        simpa [updI, hx] using k4 h9
  · intro x u g hx hu
    by_cases hxc : x = c
    · subst hxc
      have : u = v2 := by simpa [updI] using hx.symm
      subst this
      rcases hat g hu with h7 | h7
      · exact h5 x _ g (hfc g h7) h7
      · intro e
        have := (h2.lt g e).2
        omega
    · exact h5 x u g (by simpa [updI, hxc] using hx) hu
  · intro x y u u' g hx hy hxy hu
    by_cases hxc : x = c
    · subst hxc
      have : u = v2 := by simpa [updI] using hx.symm
      subst this
      have hyc : y ≠ x := Ne.symm hxy
      have hy' : fw y = some u' := by simpa [updI, hyc] using hy
      rcases hat g hu with h7 | h7
      · exact h6 x y _ u' g (hfc g h7) hy' hxy h7
      · intro e
        rcases h4 y with ⟨h8, _⟩ | ⟨v', h8, h9⟩
        · rw [hy'] at h8; cases h8
        · rw [hy'] at h8
          obtain rfl := Option.some.inj h8
          have := (h9.lt g e).2
          omega
    · have hx' : fw x = some u := by simpa [updI, hxc] using hx
      by_cases hyc : y = c
      · subst hyc
        have : u' = v2 := by simpa [updI] using hy.symm
        subst this
        intro e
        rcases hat g e with h7 | h7
        · exact h6 y x _ u g (hfc g h7) hx' (Ne.symm hxy) h7 hu
        · rcases h4 x with ⟨h8, _⟩ | ⟨v', h8, h9⟩
          · rw [hx'] at h8; cases h8
          · rw [hx'] at h8
            obtain rfl := Option.some.inj h8
            have := (h9.lt g hu).2
            omega
      · exact h6 x y u u' g hx' (by simpa [updI, hyc] using hy) hxy hu
  · intro x j hj
    replace hj : j ∈ updI b.wants c (b.wants c ++ [i]) x := hj
    unfold updI at hj
    split at hj
    · rcases List.mem_append.1 hj with hj | hj
      · exact h.vw c j hj
      · simp at hj; subst hj; exact hi
    · exact h.vw x j hj
end Go.Proofs.Ytihnmhemhcmmoaa
