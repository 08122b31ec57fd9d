/- Types in the place of variables: Put's walk. -/
import Derived.Test.YtcelpmojhjnggaaI13
import Derived.Deep.Cut
import Derived.Deep.DeepCutAuto
namespace Go.Proofs.Ytcelpmojhjnggaa
open Go Go.RowKit Go.Sort Go.Deep KindsP
set_option maxHeartbeats 2000000
set_option maxRecDepth 100000

theorem put_x (D : Nat) (w : World) (k : Int) (p n : ByteArray) (aa ar an at0 : Option Addr) (na ca nr cr nn cn nt ct : Nat) (la lr : List Ty) (I : Int)
    (hix : (k == 9) = true → I < 0 ∨ (0 ≤ I ∧ (nt : Int) ≤ I))
    (hI : ∀ w', Below w.heap.size w w' → Calls Try.prog 42 #[.slice an nn cn, .string n] w' fun e w'' => e = .returned (.int .i64 I) ∧ w'' = w')
    (HA : ∀ w', Below (W4 w k p n (.slice aa na ca) (.slice ar nr cr) (.slice an nn cn) (.slice at0 nt ct)).heap.size (W4 w k p n (.slice aa na ca) (.slice ar nr cr) (.slice an nn cn) (.slice at0 nt ct)) w' → Calls Try.prog 44 #[.slice aa na ca, .func (.func 43) #[] #[.pointer (some ⟨w.heap.size + 1, 0, none⟩), .pointer (some ⟨w.heap.size + 1 + 1, 0, none⟩)]] w' fun e w'' => ∃ u, e = .returned u ∧ RowIn (fun b => w'.heap.size ≤ b) (LiesIn (fun b => w'.heap.size ≤ b) w'' D) w'' u la ∧ Below w'.heap.size w' w'')
    (HR : ∀ w', Below (W4 w k p n (.slice aa na ca) (.slice ar nr cr) (.slice an nn cn) (.slice at0 nt ct)).heap.size (W4 w k p n (.slice aa na ca) (.slice ar nr cr) (.slice an nn cn) (.slice at0 nt ct)) w' → Calls Try.prog 44 #[.slice ar nr cr, .func (.func 43) #[] #[.pointer (some ⟨w.heap.size + 1, 0, none⟩), .pointer (some ⟨w.heap.size + 1 + 1, 0, none⟩)]] w' fun e w'' => ∃ u, e = .returned u ∧ RowIn (fun b => w'.heap.size ≤ b) (LiesIn (fun b => w'.heap.size ≤ b) w'' D) w'' u lr ∧ Below w'.heap.size w' w'') :
    Calls Try.prog 18 #[.agg #[.int .i64 k, .string p, .string n, .slice aa na ca, .slice ar nr cr], .slice an nn cn, .slice at0 nt ct] w fun e w' => ∃ u, e = .returned u ∧ LiesIn (fun b => w.heap.size ≤ b) w' (D + 1) u (.mk k p n la lr) ∧ Below w.heap.size w w' := by
  have HK := Lib.hid (fun (W : World) (hb : Below (W4 w k p n (.slice aa na ca) (.slice ar nr cr) (.slice an nn cn) (.slice at0 nt ct)).heap.size (W4 w k p n (.slice aa na ca) (.slice ar nr cr) (.slice an nn cn) (.slice at0 nt ct)) W) => alloc_known4 hb)
  have hbw := W4_below w k p n (.slice aa na ca) (.slice ar nr cr) (.slice an nn cn) (.slice at0 nt ct)
  have HI := Lib.hid (hI _ hbw)
  clear hI
  cases h9 : (k == 9)
  · clear HI hix hbw
    go_enter Try.func18, Try.ntmps18
    go_upto_region 6 with fail
    go_region_with (first | (go_at_call_of 44 (Value.slice aa na ca); refine (HA _ ?_).mono ?_; exact (Below.refl _ _).drew; rintro e w2 ⟨u1, rfl, hu1, hb⟩; obtain ⟨_, _, _, rfl⟩ := row_form hu1; have HU1 := Lib.hid hu1; have HB1 := Lib.hid hb; have HC : Hid (Below (W4 w k p n (.slice aa na ca) (.slice ar nr cr) (.slice an nn cn) (.slice at0 nt ct)).heap.size (W4 w k p n (.slice aa na ca) (.slice ar nr cr) (.slice an nn cn) (.slice at0 nt ct)) w2) := ⟨hb.os, hb.tape, hb.output, hb.size, hb.block⟩; have HC2 := HC; obtain ⟨hk, hk1, hk2, hk3, hbw⟩ := HK.out w2 HC.out; have c0 : w2.cell? ⟨w.heap.size, 0, none⟩ = some (.int .i64 k) := (by simp [World.cell?, hk]); have d0 : w2.cell? ⟨w.heap.size + 1 + 1 + 1, 0, none⟩ = some (.int .i64 0) := (by simp [World.cell?, hk3]); have c1 : w2.cell? ⟨w.heap.size, 1, none⟩ = some (.string p) := (by simp [World.cell?, hk]); have d1 : w2.cell? ⟨w.heap.size + 1 + 1 + 1, 1, none⟩ = some (.string ⟨#[]⟩) := (by simp [World.cell?, hk3]); have c2 : w2.cell? ⟨w.heap.size, 2, none⟩ = some (.string n) := (by simp [World.cell?, hk]); have d2 : w2.cell? ⟨w.heap.size + 1 + 1 + 1, 2, none⟩ = some (.string ⟨#[]⟩) := (by simp [World.cell?, hk3]); have c3 : w2.cell? ⟨w.heap.size, 3, none⟩ = some (.slice aa na ca) := (by simp [World.cell?, hk]); have d3 : w2.cell? ⟨w.heap.size + 1 + 1 + 1, 3, none⟩ = some (.slice none 0 0) := (by simp [World.cell?, hk3]); have c4 : w2.cell? ⟨w.heap.size, 4, none⟩ = some (.slice ar nr cr) := (by simp [World.cell?, hk]); have d4 : w2.cell? ⟨w.heap.size + 1 + 1 + 1, 4, none⟩ = some (.slice none 0 0) := (by simp [World.cell?, hk3]); have f0 : ∀ i, w2.frozen? ⟨w.heap.size, i, none⟩ = false := (fun i => by simp [World.frozen?, hk]); have f1 : ∀ i, w2.frozen? ⟨w.heap.size + 1 + 1 + 1, i, none⟩ = false := (fun i => by simp [World.frozen?, hk3]); have hs2 : w.heap.size + 1 + 1 + 1 < w2.heap.size := (Array.getElem?_eq_some_iff.1 hk3).1; have HBW := Lib.hid hbw; clear hk hk1 hk2 hk3 hbw hb; clear hu1) | (go_at_call_of 44 (Value.slice ar nr cr); refine (HR _ ?_).mono ?_; exact HC.out; rintro e w3 ⟨u2, rfl, hu2, hb⟩; obtain ⟨_, _, _, rfl⟩ := row_form hu2; have HU2 := Lib.hid hu2; have HB2 := Lib.hid hb; have HC := Lib.hid (HC.out.trans (hb.mono HC.out.size)); obtain ⟨hk, hk1, hk2, hk3, hbw⟩ := HK.out w3 HC.out; have c0 : w3.cell? ⟨w.heap.size, 0, none⟩ = some (.int .i64 k) := (by simp [World.cell?, hk]); have d0 : w3.cell? ⟨w.heap.size + 1 + 1 + 1, 0, none⟩ = some (.int .i64 0) := (by simp [World.cell?, hk3]); have c1 : w3.cell? ⟨w.heap.size, 1, none⟩ = some (.string p) := (by simp [World.cell?, hk]); have d1 : w3.cell? ⟨w.heap.size + 1 + 1 + 1, 1, none⟩ = some (.string ⟨#[]⟩) := (by simp [World.cell?, hk3]); have c2 : w3.cell? ⟨w.heap.size, 2, none⟩ = some (.string n) := (by simp [World.cell?, hk]); have d2 : w3.cell? ⟨w.heap.size + 1 + 1 + 1, 2, none⟩ = some (.string ⟨#[]⟩) := (by simp [World.cell?, hk3]); have c3 : w3.cell? ⟨w.heap.size, 3, none⟩ = some (.slice aa na ca) := (by simp [World.cell?, hk]); have d3 : w3.cell? ⟨w.heap.size + 1 + 1 + 1, 3, none⟩ = some (.slice none 0 0) := (by simp [World.cell?, hk3]); have c4 : w3.cell? ⟨w.heap.size, 4, none⟩ = some (.slice ar nr cr) := (by simp [World.cell?, hk]); have d4 : w3.cell? ⟨w.heap.size + 1 + 1 + 1, 4, none⟩ = some (.slice none 0 0) := (by simp [World.cell?, hk3]); have f0 : ∀ i, w3.frozen? ⟨w.heap.size, i, none⟩ = false := (fun i => by simp [World.frozen?, hk]); have f1 : ∀ i, w3.frozen? ⟨w.heap.size + 1 + 1 + 1, i, none⟩ = false := (fun i => by simp [World.frozen?, hk3]); have hs2 : w.heap.size + 1 + 1 + 1 < w3.heap.size := (Array.getElem?_eq_some_iff.1 hk3).1; have HBW := Lib.hid hbw; clear hk hk1 hk2 hk3 hbw hb; clear hu2))
    all_goals
      go_wp2_with fail
      refine bodyPost_ret (v := .agg #[.int .i64 k, .string p, .string n, .slice _ _ _, .slice _ _ _]) (by simp [results, Try.results18, go_sem, d0, d1, d2, d3, d4]; first | rfl | exact ⟨⟨rfl, rfl, rfl⟩, rfl, rfl, rfl⟩) rfl ⟨_, rfl, ?_, ?_⟩
      · have hsame : ∀ (u1 u2 v0 v1 v2 v3 v4 : Value) (b : Nat), w.heap.size + 4 ≤ b → (((((((w3.setCell ⟨w.heap.size, 3, none⟩ u1).setCell ⟨w.heap.size, 4, none⟩ u2).setCell ⟨w.heap.size + 1 + 1 + 1, 0, none⟩ v0).setCell ⟨w.heap.size + 1 + 1 + 1, 1, none⟩ v1).setCell ⟨w.heap.size + 1 + 1 + 1, 2, none⟩ v2).setCell ⟨w.heap.size + 1 + 1 + 1, 3, none⟩ v3).setCell ⟨w.heap.size + 1 + 1 + 1, 4, none⟩ v4).heap[b]? = w3.heap[b]? := by
          intro u1 u2 v0 v1 v2 v3 v4 b hb
          rw [keep5 _ _ _ _ _ _ _ _ (by omega), Below.heap_setCell _ _ _ _ (by simp; omega), Below.heap_setCell _ _ _ _ (by simp; omega)]
        have e : (W4 w k p n (.slice aa na ca) (.slice ar nr cr) (.slice an nn cn) (.slice at0 nt ct)).drew.heap.size = w.heap.size + 4 := by show (W4 w k p n (.slice aa na ca) (.slice ar nr cr) (.slice an nn cn) (.slice at0 nt ct)).heap.size = _; simp
        have hs2 := HC2.out.size
        have e' : (W4 w k p n (.slice aa na ca) (.slice ar nr cr) (.slice an nn cn) (.slice at0 nt ct)).heap.size = w.heap.size + 4 := by simp
        have g1 : ∀ b, (W4 w k p n (.slice aa na ca) (.slice ar nr cr) (.slice an nn cn) (.slice at0 nt ct)).drew.heap.size ≤ b → w.heap.size + 4 ≤ b := fun b h1 => by omega
        have g2 : ∀ b, w2.heap.size ≤ b → w.heap.size + 4 ≤ b := fun b h1 => by omega
        exact ⟨_, _, rfl, HU1.out.kept (fun v t h => h.kept (fun b h1 h2 => ⟨Nat.le_trans (Nat.le_add_right _ 4) (g1 b h1), (hsame _ _ _ _ _ _ _ b (g1 b h1)).trans (HB2.out.block b h2)⟩)) (fun b h1 h2 => ⟨Nat.le_trans (Nat.le_add_right _ 4) (g1 b h1), (hsame _ _ _ _ _ _ _ b (g1 b h1)).trans (HB2.out.block b h2)⟩), HU2.out.kept (fun v t h => h.kept (fun b h1 h2 => ⟨Nat.le_trans (Nat.le_add_right _ 4) (g2 b h1), hsame _ _ _ _ _ _ _ b (g2 b h1)⟩)) (fun b h1 h2 => ⟨Nat.le_trans (Nat.le_add_right _ 4) (g2 b h1), hsame _ _ _ _ _ _ _ b (g2 b h1)⟩)⟩
      · exact (((((((HBW.out.setCell (by simp) _).setCell (by simp) _).setCell (by simp <;> omega) _).setCell (by simp <;> omega) _).setCell (by simp <;> omega) _).setCell (by simp <;> omega) _).setCell (by simp <;> omega) _)
  · have hix := hix h9
    rcases hix with hix | ⟨hi1, hi2⟩
    all_goals
      have h9' := h9
      clear h9 hbw
      go_enter Try.func18, Try.ntmps18
      go_upto_region 6 with (first | (go_at_call 42; refine HI.out.mono ?_; rintro e w5 ⟨rfl, hw5⟩; obtain rfl := hw5.symm))
      go_region_with (first | (go_at_call_of 44 (Value.slice aa na ca); refine (HA _ ?_).mono ?_; exact (Below.refl _ _).drew; rintro e w2 ⟨u1, rfl, hu1, hb⟩; obtain ⟨_, _, _, rfl⟩ := row_form hu1; have HU1 := Lib.hid hu1; have HB1 := Lib.hid hb; have HC : Hid (Below (W4 w k p n (.slice aa na ca) (.slice ar nr cr) (.slice an nn cn) (.slice at0 nt ct)).heap.size (W4 w k p n (.slice aa na ca) (.slice ar nr cr) (.slice an nn cn) (.slice at0 nt ct)) w2) := ⟨hb.os, hb.tape, hb.output, hb.size, hb.block⟩; have HC2 := HC; obtain ⟨hk, hk1, hk2, hk3, hbw⟩ := HK.out w2 HC.out; have c0 : w2.cell? ⟨w.heap.size, 0, none⟩ = some (.int .i64 k) := (by simp [World.cell?, hk]); have d0 : w2.cell? ⟨w.heap.size + 1 + 1 + 1, 0, none⟩ = some (.int .i64 0) := (by simp [World.cell?, hk3]); have c1 : w2.cell? ⟨w.heap.size, 1, none⟩ = some (.string p) := (by simp [World.cell?, hk]); have d1 : w2.cell? ⟨w.heap.size + 1 + 1 + 1, 1, none⟩ = some (.string ⟨#[]⟩) := (by simp [World.cell?, hk3]); have c2 : w2.cell? ⟨w.heap.size, 2, none⟩ = some (.string n) := (by simp [World.cell?, hk]); have d2 : w2.cell? ⟨w.heap.size + 1 + 1 + 1, 2, none⟩ = some (.string ⟨#[]⟩) := (by simp [World.cell?, hk3]); have c3 : w2.cell? ⟨w.heap.size, 3, none⟩ = some (.slice aa na ca) := (by simp [World.cell?, hk]); have d3 : w2.cell? ⟨w.heap.size + 1 + 1 + 1, 3, none⟩ = some (.slice none 0 0) := (by simp [World.cell?, hk3]); have c4 : w2.cell? ⟨w.heap.size, 4, none⟩ = some (.slice ar nr cr) := (by simp [World.cell?, hk]); have d4 : w2.cell? ⟨w.heap.size + 1 + 1 + 1, 4, none⟩ = some (.slice none 0 0) := (by simp [World.cell?, hk3]); have f0 : ∀ i, w2.frozen? ⟨w.heap.size, i, none⟩ = false := (fun i => by simp [World.frozen?, hk]); have f1 : ∀ i, w2.frozen? ⟨w.heap.size + 1 + 1 + 1, i, none⟩ = false := (fun i => by simp [World.frozen?, hk3]); have hs2 : w.heap.size + 1 + 1 + 1 < w2.heap.size := (Array.getElem?_eq_some_iff.1 hk3).1; have HBW := Lib.hid hbw; clear hk hk1 hk2 hk3 hbw hb; clear hu1) | (go_at_call_of 44 (Value.slice ar nr cr); refine (HR _ ?_).mono ?_; exact HC.out; rintro e w3 ⟨u2, rfl, hu2, hb⟩; obtain ⟨_, _, _, rfl⟩ := row_form hu2; have HU2 := Lib.hid hu2; have HB2 := Lib.hid hb; have HC := Lib.hid (HC.out.trans (hb.mono HC.out.size)); obtain ⟨hk, hk1, hk2, hk3, hbw⟩ := HK.out w3 HC.out; have c0 : w3.cell? ⟨w.heap.size, 0, none⟩ = some (.int .i64 k) := (by simp [World.cell?, hk]); have d0 : w3.cell? ⟨w.heap.size + 1 + 1 + 1, 0, none⟩ = some (.int .i64 0) := (by simp [World.cell?, hk3]); have c1 : w3.cell? ⟨w.heap.size, 1, none⟩ = some (.string p) := (by simp [World.cell?, hk]); have d1 : w3.cell? ⟨w.heap.size + 1 + 1 + 1, 1, none⟩ = some (.string ⟨#[]⟩) := (by simp [World.cell?, hk3]); have c2 : w3.cell? ⟨w.heap.size, 2, none⟩ = some (.string n) := (by simp [World.cell?, hk]); have d2 : w3.cell? ⟨w.heap.size + 1 + 1 + 1, 2, none⟩ = some (.string ⟨#[]⟩) := (by simp [World.cell?, hk3]); have c3 : w3.cell? ⟨w.heap.size, 3, none⟩ = some (.slice aa na ca) := (by simp [World.cell?, hk]); have d3 : w3.cell? ⟨w.heap.size + 1 + 1 + 1, 3, none⟩ = some (.slice none 0 0) := (by simp [World.cell?, hk3]); have c4 : w3.cell? ⟨w.heap.size, 4, none⟩ = some (.slice ar nr cr) := (by simp [World.cell?, hk]); have d4 : w3.cell? ⟨w.heap.size + 1 + 1 + 1, 4, none⟩ = some (.slice none 0 0) := (by simp [World.cell?, hk3]); have f0 : ∀ i, w3.frozen? ⟨w.heap.size, i, none⟩ = false := (fun i => by simp [World.frozen?, hk]); have f1 : ∀ i, w3.frozen? ⟨w.heap.size + 1 + 1 + 1, i, none⟩ = false := (fun i => by simp [World.frozen?, hk3]); have hs2 : w.heap.size + 1 + 1 + 1 < w3.heap.size := (Array.getElem?_eq_some_iff.1 hk3).1; have HBW := Lib.hid hbw; clear hk hk1 hk2 hk3 hbw hb; clear hu2))
      all_goals
        go_wp2_with fail
        refine bodyPost_ret (v := .agg #[.int .i64 k, .string p, .string n, .slice _ _ _, .slice _ _ _]) (by simp [results, Try.results18, go_sem, d0, d1, d2, d3, d4]; first | rfl | exact ⟨⟨rfl, rfl, rfl⟩, rfl, rfl, rfl⟩) rfl ⟨_, rfl, ?_, ?_⟩
        · have hsame : ∀ (u1 u2 v0 v1 v2 v3 v4 : Value) (b : Nat), w.heap.size + 4 ≤ b → (((((((w3.setCell ⟨w.heap.size, 3, none⟩ u1).setCell ⟨w.heap.size, 4, none⟩ u2).setCell ⟨w.heap.size + 1 + 1 + 1, 0, none⟩ v0).setCell ⟨w.heap.size + 1 + 1 + 1, 1, none⟩ v1).setCell ⟨w.heap.size + 1 + 1 + 1, 2, none⟩ v2).setCell ⟨w.heap.size + 1 + 1 + 1, 3, none⟩ v3).setCell ⟨w.heap.size + 1 + 1 + 1, 4, none⟩ v4).heap[b]? = w3.heap[b]? := by
            intro u1 u2 v0 v1 v2 v3 v4 b hb
            rw [keep5 _ _ _ _ _ _ _ _ (by omega), Below.heap_setCell _ _ _ _ (by simp; omega), Below.heap_setCell _ _ _ _ (by simp; omega)]
          have e : (W4 w k p n (.slice aa na ca) (.slice ar nr cr) (.slice an nn cn) (.slice at0 nt ct)).drew.heap.size = w.heap.size + 4 := by show (W4 w k p n (.slice aa na ca) (.slice ar nr cr) (.slice an nn cn) (.slice at0 nt ct)).heap.size = _; simp
          have hs2 := HC2.out.size
          have e' : (W4 w k p n (.slice aa na ca) (.slice ar nr cr) (.slice an nn cn) (.slice at0 nt ct)).heap.size = w.heap.size + 4 := by simp
          have g1 : ∀ b, (W4 w k p n (.slice aa na ca) (.slice ar nr cr) (.slice an nn cn) (.slice at0 nt ct)).drew.heap.size ≤ b → w.heap.size + 4 ≤ b := fun b h1 => by omega
          have g2 : ∀ b, w2.heap.size ≤ b → w.heap.size + 4 ≤ b := fun b h1 => by omega
          exact ⟨_, _, rfl, HU1.out.kept (fun v t h => h.kept (fun b h1 h2 => ⟨Nat.le_trans (Nat.le_add_right _ 4) (g1 b h1), (hsame _ _ _ _ _ _ _ b (g1 b h1)).trans (HB2.out.block b h2)⟩)) (fun b h1 h2 => ⟨Nat.le_trans (Nat.le_add_right _ 4) (g1 b h1), (hsame _ _ _ _ _ _ _ b (g1 b h1)).trans (HB2.out.block b h2)⟩), HU2.out.kept (fun v t h => h.kept (fun b h1 h2 => ⟨Nat.le_trans (Nat.le_add_right _ 4) (g2 b h1), hsame _ _ _ _ _ _ _ b (g2 b h1)⟩)) (fun b h1 h2 => ⟨Nat.le_trans (Nat.le_add_right _ 4) (g2 b h1), hsame _ _ _ _ _ _ _ b (g2 b h1)⟩)⟩
        · exact (((((((HBW.out.setCell (by simp) _).setCell (by simp) _).setCell (by simp <;> omega) _).setCell (by simp <;> omega) _).setCell (by simp <;> omega) _).setCell (by simp <;> omega) _).setCell (by simp <;> omega) _)
end Go.Proofs.Ytcelpmojhjnggaa

/- Types in the place of variables: Put, for every type. -/
namespace Go.Proofs.Ytcelpmojhjnggaa
open Go Go.RowKit Go.Sort Go.Deep KindsP
set_option maxHeartbeats 2000000
set_option maxRecDepth 100000

theorem LiesIn.deeper {ok : Nat → Prop} {w : World} : ∀ (d : Nat) (v : Value) (t : Ty), LiesIn ok w d v t → LiesIn ok w (d + 1) v t
  | 0, _, _, h => h.elim
  | d + 1, _, .mk _ _ _ _ _, ⟨va, vr, h1, h2, h3⟩ => ⟨va, vr, h1, h2.kept (LiesIn.deeper d) (fun _ h _ => ⟨h, rfl⟩), h3.kept (LiesIn.deeper d) (fun _ h _ => ⟨h, rfl⟩)⟩
theorem LiesIn.le {ok : Nat → Prop} {w : World} {d d' : Nat} {v : Value} {t : Ty} (h : LiesIn ok w d v t) (hd : d ≤ d') : LiesIn ok w d' v t := by
  induction hd with
  | refl => exact h
  | step _ ih => exact LiesIn.deeper _ _ _ ih
theorem put_hit (dd : Nat) (w : World) (p n : ByteArray) (aa ar an : Option Addr) (na ca nr cr nn cn ct i bt ot : Nat) (ts : List Ty) (hi : i < ts.length) (hrow : RowOf (Lies w dd) w (.slice (some ⟨bt, ot, none⟩) ts.length ct) ts) (hsz : sizL ts ≤ 1000000000)
    (hI : ∀ w', Below w.heap.size w w' → Calls Try.prog 42 #[.slice an nn cn, .string n] w' fun e w'' => e = .returned (.int .i64 i) ∧ w'' = w') :
    Calls Try.prog 18 #[.agg #[.int .i64 9, .string p, .string n, .slice aa na ca, .slice ar nr cr], .slice an nn cn, .slice (some ⟨bt, ot, none⟩) ts.length ct] w fun e w' => ∃ u, e = .returned u ∧ LiesIn (fun b => w.heap.size ≤ b) w' dd u ts[i] ∧ Below w.heap.size w w' := by
  have hbw := W4_below w 9 p n (.slice aa na ca) (.slice ar nr cr) (.slice an nn cn) (.slice (some ⟨bt, ot, none⟩) ts.length ct)
  have HI := Lib.hid (hI _ hbw)
  obtain ⟨x0, x1, x2, x3, x4, hl, hf⟩ := hrow.get i ts[i] (by simp)
  obtain ⟨f0, f1, f2, f3, f4⟩ := hf.below hbw
  have HL := Lib.hid (Lies.below hbw _ _ _ hl)
  have hst := siz_get ts i hi
  have HST := Lib.hid (show sizT ts[i] ≤ 1000000000 by omega)
  have HK := Lib.hid (fun (W : World) (hb : Below (W4 w 9 p n (.slice aa na ca) (.slice ar nr cr) (.slice an nn cn) (.slice (some ⟨bt, ot, none⟩) ts.length ct)).heap.size (W4 w 9 p n (.slice aa na ca) (.slice ar nr cr) (.slice an nn cn) (.slice (some ⟨bt, ot, none⟩) ts.length ct)) W) => alloc_known4 hb)
  have hbp := hrow.form
  obtain ⟨_, _, hv, hcc, hcm, _⟩ := hbp
  have hll := Nat.le_trans hcc hcm
  unfold maxLen at hll
  clear hI hl hf hrow hst hv hcc hcm hbw
  go_enter Try.func18, Try.ntmps18
  go_wp2_with (first | (go_at_call 42; refine HI.out.mono ?_; rintro e w5 ⟨rfl, hw5⟩; obtain rfl := hw5.symm) | (go_at_call 39; refine (copied_any dd _ _ ts[i] HL.out HST.out).mono ?_; rintro e w2 ⟨u, rfl, hu, hb⟩; refine Hid.out ?_))
  refine Lib.hid ?_
  obtain ⟨hk0, hk1, hk2, hk3, hbw⟩ := HK.out w2 hb
  obtain ⟨c0, c1, c2, c3, c4', rfl⟩ := lies_five (LiesIn.lies _ _ _ hu)
  obtain ⟨t0, t1, t2, t3, t4, t5, t6, t7, t8, rfl, rfl, rfl, rfl, rfl⟩ := lies_form (LiesIn.lies _ _ _ hu)
  have d0 : w2.cell? ⟨w.heap.size + 1 + 1 + 1, 0, none⟩ = some (.int .i64 0) := by simp [World.cell?, hk3]
  have d1 : w2.cell? ⟨w.heap.size + 1 + 1 + 1, 1, none⟩ = some (.string ⟨#[]⟩) := by simp [World.cell?, hk3]
  have d2 : w2.cell? ⟨w.heap.size + 1 + 1 + 1, 2, none⟩ = some (.string ⟨#[]⟩) := by simp [World.cell?, hk3]
  have d3 : w2.cell? ⟨w.heap.size + 1 + 1 + 1, 3, none⟩ = some (.slice none 0 0) := by simp [World.cell?, hk3]
  have d4 : w2.cell? ⟨w.heap.size + 1 + 1 + 1, 4, none⟩ = some (.slice none 0 0) := by simp [World.cell?, hk3]
  have fz : ∀ i, w2.frozen? ⟨w.heap.size + 1 + 1 + 1, i, none⟩ = false := fun i => by simp [World.frozen?, hk3]
  have HU := Lib.hid hu
  have HBW := Lib.hid hbw
  clear hk0 hk1 hk2 hk3 hbw hu hb f0 f1 f2 f3 f4
  go_wp2_with fail
  refine bodyPost_ret (v := .agg #[.int .i64 t0, .string t1, .string t2, .slice t3 t4 t5, .slice t6 t7 t8]) (by simp [results, Try.results18, go_sem, d0, d1, d2, d3, d4]) rfl ⟨_, rfl, ?_, ?_⟩
  · refine HU.out.kept (fun b h1 h2 => ⟨?_, keep5 _ _ _ _ _ _ _ b ?_⟩)
    · simp at h1; omega
    · simp at h1; omega
  · exact ((((HBW.out.setCell (by simp <;> omega) _).setCell (by simp <;> omega) _).setCell (by simp <;> omega) _).setCell (by simp <;> omega) _).setCell (by simp <;> omega) _
theorem put_step (d : Nat) (ih : ∀ e, e < d → PutAt e) : PutAt d := by
  intro w dd v vn vt t ns ts hl hn ht hs hss
  obtain ⟨x0, x1, x2, x3, x4, rfl⟩ := lies_five hl
  obtain ⟨e, k, p, n, a1, m1, q1, a2, m2, q2, la, lr, rfl, rfl, rfl, rfl, rfl, rfl, rfl, hra, hrr⟩ := lies_at hl
  rw [sizT] at hs
  have hla := siz_len la
  have hlr := siz_len lr
  obtain ⟨⟨an, cn, rfl, hn1, hn2⟩, hn3⟩ := id hn
  obtain ⟨at0, ct, rfl, hct, hctm, htf⟩ := ht.form
  have hidx : ∀ w', Below w.heap.size w w' → Calls Try.prog 42 #[.slice an ns.length cn, .string n] w' fun e w'' => e = .returned (.int .i64 (Lib.idxOfS ns n)) ∧ w'' = w' := fun w' hb => index_any w' _ ns (hn.keep (below_keep hb)) n
  cases hf : (if (k == 9) = true then found ns ts n else none) with
  | some t0 =>
    have hp : putT ns ts (.mk k p n la lr) = t0 := by rw [putT, hf]
    rw [hp]
    have hk9 : (k == 9) = true := by
      cases h : (k == 9)
      · rw [h] at hf; simp at hf
      · rfl
    rw [if_pos hk9] at hf
    obtain ⟨h0, i, hi, hlt, rfl⟩ := found_small ns ts n t0 hf
    obtain rfl : k = 9 := eq_of_beq hk9
    obtain ⟨bt, ot, rfl⟩ := htf (by omega)
    rw [hi] at hidx
    refine (put_hit dd w p n a1 a2 an m1 q1 m2 q2 ns.length cn ct i bt ot ts hlt ht hss hidx).mono ?_
    rintro r w' ⟨u, rfl, hu, hb⟩
    exact ⟨u, rfl, hu.le (by omega), hb⟩
  | none =>
    have hp : putT ns ts (.mk k p n la lr) = .mk k p n (la.map (putT ns ts)) (lr.map (putT ns ts)) := by rw [putT, hf]; show Ty.mk _ _ _ _ _ = _; rw [putL_map, putL_map]
    rw [hp]
    have key : ∀ (l : List Ty) (x : Value), l.length ≤ 1000000000 → sizL l ≤ 1000000000 → RowOf (Lies w e) w x l → ∀ w', Below (W4 w k p n (.slice a1 m1 q1) (.slice a2 m2 q2) (.slice an ns.length cn) (.slice at0 ts.length ct)).heap.size (W4 w k p n (.slice a1 m1 q1) (.slice a2 m2 q2) (.slice an ns.length cn) (.slice at0 ts.length ct)) w' →
        Calls Try.prog 44 #[x, .func (.func 43) #[] #[.pointer (some ⟨w.heap.size + 1, 0, none⟩), .pointer (some ⟨w.heap.size + 1 + 1, 0, none⟩)]] w' fun r w'' => ∃ u, r = .returned u ∧ RowIn (fun b => w'.heap.size ≤ b) (LiesIn (fun b => w'.heap.size ≤ b) w'' (e + dd)) w'' u (l.map (putT ns ts)) ∧ Below w'.heap.size w' w'' := by
      intro l x hlen hsl hr w' hb
      obtain ⟨_, g1, g2, _, hbw⟩ := alloc_known4 hb
      refine each44_put _ _ e (e + dd) (putT ns ts) w' x l (hr.below hbw) hlen (fun i hi W v hbW hlv => ?_)
      have hst := siz_get l i hi
      have l1 := (Array.getElem?_eq_some_iff.1 g1).1
      have l2 := (Array.getElem?_eq_some_iff.1 g2).1
      have hwW := hbw.trans (hbW.mono hbw.size)
      exact clo_any e (ih e (by omega)) W _ _ dd v _ _ l[i] ns ts hlv (hn.keep (below_keep hwW)) (ht.below hwW) (by omega) hss ((hbW.block _ l1).trans g1) ((hbW.block _ l2).trans g2)
    have hx := put_x (e + dd) w k p n a1 a2 an at0 m1 q1 m2 q2 ns.length cn ts.length ct (la.map (putT ns ts)) (lr.map (putT ns ts)) (Lib.idxOfS ns n) (fun h9 => by rw [if_pos h9] at hf; exact found_none ns ts n hf) hidx (key la _ (by omega) (by omega) hra) (key lr _ (by omega) (by omega) hrr)
    refine hx.mono ?_
    rintro r w' ⟨u, rfl, hu, hb⟩
    exact ⟨u, rfl, hu.le (by omega), hb⟩
theorem put_any (d : Nat) : PutAt d := Nat.strongRecOn d put_step
end Go.Proofs.Ytcelpmojhjnggaa
