/- The walk of go1. -/
import Derived.Test.YtihnmhemhcmmoaaA4
namespace Go.Proofs.Ytihnmhemhcmmoaa
open Go Go.RowKit Go.Maps Go.WideMaps
set_option maxHeartbeats 2000000
set_option maxRecDepth 100000

theorem putP_out (s : MS) (i : Nat) : (putP s i).out = s.out := by
  unfold putP
  cases s.first with
  | none => rfl
  | some f => cases s.last <;> rfl
theorem lessP_out (toF : Int → Option Nat) (s : MS) (c : Int) : (lessP toF s c).out = s.out := by
  unfold lessP
  cases toF c with
  | none => rfl
  | some i =>
    dsimp only
    split
    · rw [putP_out]
    · rfl
theorem doesP_out (toF : Int → Option Nat) (s : MS) (i : Nat) : (doesP toF s i).out.length = s.out.length + 1 := by
  unfold doesP
  rw [lessP_out]
  simp [MS.setW]
/-- what go1's loop has at its head -/
def GoAt (w0 : World) (base : Nat) (K : Kit) (R : Nat) (s' : MS) (g : Nat) (p : Value) (w : World) : Prop :=
  (p = .pointer none ∧ ∃ r1, r1 ≤ R ∧ In w0 base K r1 w s') ∨ ∃ i s1 r1, p = pv K.ps (some i) ∧ i < s1.ws.length ∧ In w0 base K r1 w s1 ∧ goP K.toF g (doesP K.toF s1 i) = some s' ∧ r1 + g + 1 ≤ R ∧ s1.out.length + g + 1 ≤ 1000000000
theorem goAt_of {w0 w : World} {base r R g : Nat} {K : Kit} {s s' : MS} {e : Ending} (h : TakePost w0 base r K s e w) (hg : goP K.toF (g + 1) s = some s') (hr : r + g + 1 ≤ R) (ho : s.out.length + g + 1 ≤ 1000000000) : ∃ p, e = .returned p ∧ GoAt w0 base K R s' g p w := by
  rcases h with ⟨hf, rfl, hin⟩ | ⟨i, hf, hi, rfl, hin⟩
  · rw [goP, hf] at hg
    obtain rfl := Option.some.inj hg
    exact ⟨_, rfl, .inl ⟨rfl, r, by omega, hin⟩⟩
  · rw [goP, hf] at hg
    dsimp only at hg
    exact ⟨_, rfl, .inr ⟨i, { s with first := (s.wt i).next }, r, rfl, hi, hin, hg, hr, ho⟩⟩
theorem go19 {w0 w : World} {base r : Nat} {K : Kit} {s s' : MS} (k : Nat) (h : In w0 base K r w s) (hg : goP K.toF k s = some s') (hr : r + k < maxLen) (ho : s.out.length + k ≤ 1000000000) :
    Calls Try.prog 19 #[.pointer (some ⟨K.bo, 0, none⟩)] w fun e w' => e = .returned (.tuple #[]) ∧ ∃ r', r' ≤ r + k ∧ In w0 base K r' w' s' := by
  cases k with
  | zero => cases hg
  | succ k =>
    have HT := Lib.hid (take20 h)
    have HG := Lib.hid hg
    have HO := Lib.hid ho
    have HR := Lib.hid hr
    have eqn := neq45_nil
    have eqs := neq45_some
    clear h hg ho hr
    go_enter Try.func19, Try.ntmps19
    go_wp2_with (first | (go_at_call 20; refine HT.out.mono ?_; rintro e w2 hp; obtain ⟨p, rfl, hga⟩ := goAt_of (R := r + k + 1) hp HG.out (by omega) (by have := HO.out; omega); have HGA := Lib.hid hga; clear hp hga))
    go_loopg [2] k (fun g p wr => Hid (GoAt w0 base K (r + k + 1) s' g p wr))
    case atStart => exact HGA
    case round =>
      have hga := hrel.out
      clear hrel
      rcases hga with ⟨rfl, hend⟩ | ⟨i, s1, r1, hp, hi, hin, hgo, hrr, hoo⟩
      · have HE := Lib.hid hend
        clear hend
        go_wp2_with fail
        go_end0
        obtain ⟨r1, h1, h2⟩ := HE.out
        exact ⟨rfl, r1, by omega, h2⟩
      · obtain ⟨q, hq, _⟩ := hin.block hi
        have hpv := pv_some hq
        have HD := Lib.hid (does21 hin hi (by have := HR.out; omega) (by omega))
        rw [hpv] at hp HD
        subst hp
        cases gk with
        | zero => cases hgo
        | succ g =>
          have HGO := Lib.hid hgo
          have HB := Lib.hid (show r1 + (g + 1) + 1 ≤ r + k + 1 ∧ s1.out.length + (g + 1) + 1 ≤ 1000000000 from ⟨hrr, hoo⟩)
          clear hq hpv hin hgo hrr hoo hi
          go_wp2_with (first | (go_at_call 21; refine HD.out.mono ?_; rintro e w3 ⟨rfl, hin3⟩; have HIN3 := Lib.hid hin3; clear hin3) | (go_at_call 20; refine (take20 HIN3.out).mono ?_; rintro e w4 hp; obtain ⟨p4, rfl, hga⟩ := goAt_of (g := g) (R := r + k + 1) hp HGO.out (by have := HB.out.1; omega) (by rw [doesP_out]; have := HB.out.2; omega); have HGA4 := Lib.hid hga; clear hp hga))
          go_roundg g
          case measure => omega
          case rel => exact HGA4
end Go.Proofs.Ytihnmhemhcmmoaa
