/- The walks of put and take. -/
import Derived.Test.YtihnmhemhcmmoaaA1
import Derived.Deep.Cut
namespace Go.Proofs.Ytihnmhemhcmmoaa
open Go Go.RowKit Go.Maps Go.WideMaps
set_option maxHeartbeats 2000000
set_option maxRecDepth 100000

theorem pv_some {ps : List Nat} {i p : Nat} (h : ps[i]? = some p) : pv ps (some i) = .pointer (some ⟨p, 0, none⟩) := by
  unfold pv ptr
  simp [List.getD_eq_getElem?_getD, h]
theorem In.block {w0 w : World} {base r : Nat} {K : Kit} {s : MS} (h : In w0 base K r w s) {i : Nat} (hi : i < s.ws.length) : ∃ p, K.ps[i]? = some p ∧ w.heap[p]? = some (.cells (wcell K.ps (s.wt i)) 51) := by
  have hl : i < K.ps.length := by rw [h.len]; exact hi
  exact ⟨K.ps[i], List.getElem?_eq_getElem hl, h.wt i _ _ (MS.wt_get hi) (List.getElem?_eq_getElem hl)⟩
theorem cell_of {w : World} {b i : Nat} {cs : Array Value} {t : TypeId} {fr : Nat × Nat} {v : Value} (h : w.heap[b]? = some (.cells cs t fr)) (hv : cs[i]? = some v) : w.cell? ⟨b, i, none⟩ = some v := by
  simp [World.cell?, h, hv]
theorem thaw_of {w : World} {b : Nat} {cs : Array Value} {t : TypeId} (h : w.heap[b]? = some (.cells cs t)) (i : Nat) : w.frozen? ⟨b, i, none⟩ = false := by
  simp [World.frozen?, h]
theorem lt_of {w : World} {b : Nat} {o : Obj} (h : w.heap[b]? = some o) : b < w.heap.size := (Array.getElem?_eq_some_iff.1 h).1
theorem ne_of {w : World} {a b : Nat} {x y : Obj} (h : w.heap[a]? = some x) (k : w.heap[b]? = some y) (hxy : x ≠ y) : a ≠ b := by
  intro e
  subst e
  rw [h] at k
  exact hxy (Option.some.inj k)
theorem ne_typ {w : World} {a b : Nat} {cs ds : Array Value} {t u : TypeId} {f g : Nat × Nat} (h : w.heap[a]? = some (.cells cs t f)) (k : w.heap[b]? = some (.cells ds u g)) (htu : t ≠ u) : a ≠ b :=
  ne_of h k (fun e => by simp only [Obj.cells.injEq] at e; exact htu e.2.1)
theorem eq45_nil (w : World) : (binOp .eql 45 (.pointer none) (.pointer none)).run Try.prog w = .ok (.bool true) w := by kernel_rfl
theorem eq45_some (a : Addr) (w : World) : (binOp .eql 45 (.pointer (some a)) (.pointer none)).run Try.prog w = .ok (.bool false) w := by kernel_rfl
theorem neq45_nil (w : World) : (binOp .neq 45 (.pointer none) (.pointer none)).run Try.prog w = .ok (.bool false) w := by kernel_rfl
theorem neq45_some (a : Addr) (w : World) : (binOp .neq 45 (.pointer (some a)) (.pointer none)).run Try.prog w = .ok (.bool true) w := by kernel_rfl
theorem put18 {w0 w : World} {base r : Nat} {K : Kit} {s : MS} (h : In w0 base K r w s) {i : Nat} (hi : i < s.ws.length) :
    Calls Try.prog 18 #[.pointer (some ⟨K.bo, 4, none⟩), pv K.ps (some i)] w fun e w' => e = .returned (.tuple #[]) ∧ In w0 base K r w' (putP s i) := by
  obtain ⟨p, hp, hpb⟩ := h.block hi
  obtain ⟨vo, hob, _, _⟩ := h.ob
  have hpv := pv_some hp
  rw [hpv]
  have HIW := h.setWt hi hp 3 (.pointer none) { s.wt i with next := none } rfl (fun l hl => by cases hl) ⟨(h.i64 i _ (MS.wt_get hi)).1, (h.i64 i _ (MS.wt_get hi)).2⟩
  have c3 : w.cell? ⟨p, 3, none⟩ = some (pv K.ps (s.wt i).next) := cell_of hpb rfl
  have fp := thaw_of hpb
  have fb := thaw_of hob
  have lp := lt_of hpb
  have lb := lt_of hob
  have hne : p ≠ K.bo := ne_typ hpb hob (by decide)
  have hne' : K.bo ≠ p := Ne.symm hne
  have eqn := eq45_nil
  have eqs := eq45_some
  have HP := Lib.hid hp
  cases hf : s.first with
  | none =>
    have c4 : w.cell? ⟨K.bo, 4, none⟩ = some (.pointer none) := by have := cell_of (i := 4) hob rfl; rwa [hf] at this
    have c5 : w.cell? ⟨K.bo, 5, none⟩ = some (pv K.ps s.last) := cell_of hob rfl
    have HF := Lib.hid hf
    have HIN := Lib.hid (HIW.setBoth i (by simpa [MS.setW] using hi))
    rw [hpv] at HIN
    clear hob hpb hp hf h hpv HIW
    go_enter Try.func18, Try.ntmps18
    go_wp2_with fail
    go_end0
    refine ⟨rfl, ?_⟩
    unfold putP
    rw [HF.out]
    exact HIN.out
  | some f0 =>
    obtain ⟨l, hl⟩ := Option.isSome_iff_exists.1 (h.fl (by rw [hf]; rfl))
    have hll := h.vl l hl
    obtain ⟨q, hq, hqb⟩ := h.block hll
    obtain ⟨g, hg, hgb⟩ := h.block (h.vf f0 hf)
    have c4 : w.cell? ⟨K.bo, 4, none⟩ = some (.pointer (some ⟨g, 0, none⟩)) := by have := cell_of (i := 4) hob rfl; rwa [hf, pv_some hg] at this
    have c5 : w.cell? ⟨K.bo, 5, none⟩ = some (.pointer (some ⟨q, 0, none⟩)) := by have := cell_of (i := 5) hob rfl; rwa [hl, pv_some hq] at this
    have HF := Lib.hid hf
    have HL := Lib.hid hl
    have hl2 : l < (s.setW i { s.wt i with next := none }).ws.length := by simpa [MS.setW] using hll
    have HIL := HIW.setWt (i := l) hl2 hq 3 (pv K.ps (some i)) { (s.setW i { s.wt i with next := none }).wt l with next := some i } rfl (fun j hj => by cases hj; simpa [MS.setW] using hi) ⟨(HIW.i64 l _ (MS.wt_get hl2)).1, (HIW.i64 l _ (MS.wt_get hl2)).2⟩
    have HIN := Lib.hid (HIL.setLast i (by simpa [MS.setW] using hi))
    rw [hpv] at HIN
    have hneq : q ≠ K.bo := ne_typ hqb hob (by decide)
    have hneq' : K.bo ≠ q := Ne.symm hneq
    have c3q : w.cell? ⟨q, 3, none⟩ = some (pv K.ps (s.wt l).next) := cell_of hqb rfl
    have fq := thaw_of hqb
    have lq := lt_of hqb
    by_cases hpq : q = p
    · subst hpq
      clear hob hpb hqb hgb hp hf hl h hpv HIW HIL hq hg
      go_enter Try.func18, Try.ntmps18
      go_wp2_with fail
      go_end0
      refine ⟨rfl, ?_⟩
      unfold putP
      rw [HF.out]
      simp only [HL.out]
      exact HIN.out
    · have hpq' : p ≠ q := Ne.symm hpq
      clear hob hpb hqb hgb hp hf hl h hpv HIW HIL hq hg
      go_enter Try.func18, Try.ntmps18
      go_wp2_with fail
      go_end0
      refine ⟨rfl, ?_⟩
      unfold putP
      rw [HF.out]
      simp only [HL.out]
      exact HIN.out
theorem pv_form (ps : List Nat) (x : Option Nat) : ∃ o, pv ps x = .pointer o := by
  cases x with
  | none => exact ⟨none, rfl⟩
  | some i => exact ⟨_, rfl⟩
def TakePost (w0 : World) (base r : Nat) (K : Kit) (s : MS) (e : Ending) (w' : World) : Prop :=
  (s.first = none ∧ e = .returned (.pointer none) ∧ In w0 base K r w' s) ∨ ∃ i, s.first = some i ∧ i < s.ws.length ∧ e = .returned (pv K.ps (some i)) ∧ In w0 base K r w' { s with first := (s.wt i).next }
theorem take20 {w0 w : World} {base r : Nat} {K : Kit} {s : MS} (h : In w0 base K r w s) :
    Calls Try.prog 20 #[.pointer (some ⟨K.bo, 4, none⟩)] w (TakePost w0 base r K s) := by
  obtain ⟨vo, hob, _, _⟩ := h.ob
  have fb := thaw_of hob
  have lb := lt_of hob
  have eqn := neq45_nil
  have eqs := neq45_some
  have HH := Lib.hid h
  cases hf : s.first with
  | none =>
    have c4 : w.cell? ⟨K.bo, 4, none⟩ = some (.pointer none) := by have := cell_of (i := 4) hob rfl; rwa [hf] at this
    have HF := Lib.hid hf
    clear hob hf h
    go_enter Try.func20, Try.ntmps20
    go_wp2_with fail
    go_ret
    exact .inl ⟨HF.out, rfl, HH.out⟩
  | some i =>
    have hi := h.vf i hf
    obtain ⟨p, hp, hpb⟩ := h.block hi
    have hpv := pv_some hp
    obtain ⟨o, ho⟩ := pv_form K.ps (s.wt i).next
    have c4 : w.cell? ⟨K.bo, 4, none⟩ = some (.pointer (some ⟨p, 0, none⟩)) := by have := cell_of (i := 4) hob rfl; rwa [hf, hpv] at this
    have c3 : w.cell? ⟨p, 3, none⟩ = some (.pointer o) := by have h3 : w.cell? ⟨p, 3, none⟩ = some (pv K.ps (s.wt i).next) := cell_of hpb rfl; rwa [ho] at h3
    have lp := lt_of hpb
    have HF := Lib.hid hf
    have HIN := Lib.hid (h.setFirst (s.wt i).next (fun j hj => h.vn i _ j (MS.wt_get hi) hj) (fun _ => h.fl (by rw [hf]; rfl)))
    rw [ho] at HIN
    have HPV := Lib.hid hpv
    have HHI := Lib.hid hi
    clear hob hpb hp hf h hpv ho hi
    go_enter Try.func20, Try.ntmps20
    go_wp2_with fail
    go_ret
    exact .inr ⟨i, HF.out, HHI.out, by rw [HPV.out]; rfl, HIN.out⟩
end Go.Proofs.Ytihnmhemhcmmoaa
