/- The walk of less. -/
import Derived.Test.YtihnmhemhcmmoaaA2
namespace Go.Proofs.Ytihnmhemhcmmoaa
open Go Go.RowKit Go.Maps Go.WideMaps
set_option maxHeartbeats 2000000
set_option maxRecDepth 100000

theorem zero3 (w : World) : (zeroValue 3).run Try.prog w = .ok (.int .i64 0) w := by kernel_rfl
theorem zero45 (w : World) : (zeroValue 45).run Try.prog w = .ok (.pointer none) w := by kernel_rfl
theorem zero44 (w : World) : (zeroValue 44).run Try.prog w = .ok (.slice none 0 0) w := by kernel_rfl
theorem In.lookR {w0 w : World} {base r : Nat} {K : Kit} {s : MS} (h : In w0 base K r w s) (c : Int) (hc : I64 c) : (Instr.lookup 40 (.map (some K.mre)) (.int .i64 c) false).run Try.prog w = .ok (.int .i64 (s.rd c)) w := by
  rw [h.rd.look Try.underlying40 (zero3 w) c hc]
  unfold MS.rd
  cases s.reads c <;> rfl
theorem In.lookT {w0 w : World} {base r : Nat} {K : Kit} {s : MS} (h : In w0 base K r w s) (c : Int) (hc : I64 c) : (Instr.lookup 42 (.map (some K.mto)) (.int .i64 c) false).run Try.prog w = .ok (pv K.ps (K.toF c)) w := by
  rw [h.tm.look Try.underlying42 (zero45 w) c hc]
  cases K.toF c <;> rfl
theorem In.put {w0 w : World} {base r : Nat} {K : Kit} {s : MS} (h : In w0 base K r w s) (c v : Int) (hc : I64 c) (hr : r < maxLen) : ∃ w1, (Instr.mapUpdate 40 (.map (some K.mre)) (.int .i64 c) (.int .i64 v)).run Try.prog w = .ok () w1 ∧ In w0 base K (r + 1) w1 { s with reads := updI s.reads c (some v) } := by
  obtain ⟨w1, h1, h2, h3⟩ := h.rd.put Try.underlying40 hr c hc (.int .i64 v)
  exact ⟨w1, h1, h.setRead c v h2 h3⟩
theorem less22 {w0 w : World} {base r : Nat} {K : Kit} {s : MS} (h : In w0 base K r w s) (c : Int) (hc : I64 c) (hr : r < maxLen) :
    Calls Try.prog 22 #[.pointer (some ⟨K.bo, 0, none⟩), .int .i64 c] w fun e w' => e = .returned (.tuple #[]) ∧ In w0 base K (r + 1) w' (lessP K.toF s c) := by
  obtain ⟨vo, hob, _, _⟩ := h.ob
  have k3 : w.cell? ⟨K.bo, 3, none⟩ = some (.map (some K.mre)) := cell_of hob rfl
  have l1 := h.lookR c hc
  obtain ⟨rc, hrc⟩ : ∃ rc, s.rd c = rc := ⟨_, rfl⟩
  rw [hrc] at l1
  obtain ⟨r1, hr1⟩ : ∃ r1, IntKind.i64.wrap (rc - 1) = r1 := ⟨_, rfl⟩
  obtain ⟨w1, u1, hin1⟩ := h.put c r1 hc hr
  obtain ⟨vo1, hob1, _, _⟩ := hin1.ob
  have j1 : w1.cell? ⟨K.bo, 1, none⟩ = some (.map (some K.mto)) := cell_of hob1 rfl
  have j3 : w1.cell? ⟨K.bo, 3, none⟩ = some (.map (some K.mre)) := cell_of hob1 rfl
  have l2 := hin1.lookT c hc
  have l3 := hin1.lookR c hc
  have hrd : ({ s with reads := updI s.reads c (some r1) } : MS).rd c = r1 := by simp [MS.rd, updI]
  rw [hrd] at l3
  have eqn := neq45_nil
  have eqs := neq45_some
  have HW := Lib.hid (show wrap1 (s.rd c - 1) = r1 by rw [hrc]; exact hr1)
  have HP := Lib.hid (fun (i : Nat) (hi : i < s.ws.length) => put18 hin1 (i := i) hi)
  have HVT := Lib.hid (h.vt c)
  have HIN := Lib.hid hin1
  have HBL := Lib.hid (fun (i : Nat) (hi : i < s.ws.length) => hin1.block (i := i) hi)
  clear h hob hrc hrd hob1
  cases ht : K.toF c with
  | none =>
    have HT := Lib.hid ht
    rw [ht] at l2
    have l2' : (Instr.lookup 42 (.map (some K.mto)) (.int .i64 c) false).run Try.prog w1 = .ok (.pointer none) w1 := l2
    have HR : Hid (lessP K.toF s c = { s with reads := updI s.reads c (some r1) }) := Lib.hid (by unfold lessP; rw [ht, HW.out])
    clear ht l2 hin1
    go_enter Try.func22, Try.ntmps22
    go_wp2_with fail
    go_end0
    exact ⟨rfl, by rw [HR.out]; exact HIN.out⟩
  | some i =>
    have hi := HVT.out i ht
    obtain ⟨p, hp, hpb⟩ := HBL.out i hi
    have hpv := pv_some hp
    rw [ht, hpv] at l2
    have HPU := Lib.hid (HP.out i hi)
    rw [hpv] at HPU
    have hR : lessP K.toF s c = if (!((({ s with reads := updI s.reads c (some r1) } : MS).wt i).done) && (r1 == 0)) = true then putP { s with reads := updI s.reads c (some r1) } i else { s with reads := updI s.reads c (some r1) } := by unfold lessP; rw [ht, HW.out]
    have HR := Lib.hid hR
    have j2 : w1.cell? ⟨p, 2, none⟩ = some (.bool (({ s with reads := updI s.reads c (some r1) } : MS).wt i).done) := cell_of hpb rfl
    obtain ⟨dn, hdn⟩ : ∃ dn, (({ s with reads := updI s.reads c (some r1) } : MS).wt i).done = dn := ⟨_, rfl⟩
    rw [hdn] at j2 HR
    clear ht hpb hp hpv hR hdn hin1 HBL HP HVT
    cases dn with
    | true =>
      go_enter Try.func22, Try.ntmps22
      go_wp2_with fail
      go_end0
      exact ⟨rfl, by rw [HR.out]; exact HIN.out⟩
    | false =>
      by_cases h0 : r1 = 0
      · subst h0
        go_enter Try.func22, Try.ntmps22
        go_wp2_with (first | (go_at_call 18; refine HPU.out.mono ?_; rintro e w5 ⟨rfl, hin5⟩; have HIN5 := Lib.hid hin5; clear hin5))
        go_end0
        exact ⟨rfl, by rw [HR.out]; exact HIN5.out⟩
      · have e0 : (r1 == 0) = false := by simpa using h0
        have HR2 : Hid (lessP K.toF s c = { s with reads := updI s.reads c (some r1) }) := Lib.hid (by rw [HR.out, e0]; rfl)
        clear h0
        go_enter Try.func22, Try.ntmps22
        go_wp2_with fail
        go_end0
        exact ⟨rfl, by rw [HR2.out]; exact HIN.out⟩
end Go.Proofs.Ytihnmhemhcmmoaa
