/- The walks of Decode, the code's and the reference's. -/
import Derived.Test.YtpgooplokmemnaaDoorA5
namespace Go.Proofs.YtpgooplokmemnaaDoor
open Go Go.RowKit IsaP
set_option maxHeartbeats 4000000
set_option maxRecDepth 100000

theorem enc_no (op a b c imm : Int) (w : World) (h : encB (rg op) (im op) (ok op) a b c imm = false) :
    Calls Tryd.prog 10 #[.agg #[.int .i64 op, .int .i64 a, .int .i64 b, .int .i64 c, .int .i64 imm]] w fun e w' => e = .returned (.tuple #[.int .i64 0, .int .i64 4]) ∧ Below w.heap.size w w' := by
  have := enc_any op a b c imm w
  rw [encRes, h] at this; exact this
theorem enc_yes (op a b c imm : Int) (w : World) (h : encB (rg op) (im op) (ok op) a b c imm = true) :
    Calls Tryd.prog 10 #[.agg #[.int .i64 op, .int .i64 a, .int .i64 b, .int .i64 c, .int .i64 imm]] w fun e w' => e = .returned (.tuple #[.int .i64 (encW op a b c imm), .int .i64 0]) ∧ Below w.heap.size w w' := by
  have := enc_any op a b c imm w
  rw [encRes, h] at this; exact this
theorem alloc_known2 {w w2 : World} {cs ds : Array Value} {t u : TypeId} {fr gr : Nat × Nat} (hb : Below ((w.alloc (.cells cs t fr)).alloc (.cells ds u gr)).heap.size ((w.alloc (.cells cs t fr)).alloc (.cells ds u gr)) w2) :
    w2.heap[w.heap.size]? = some (.cells cs t fr) ∧ w2.heap[w.heap.size + 1]? = some (.cells ds u gr) ∧ Below w.heap.size w w2 := by
  obtain ⟨h1, h2⟩ := alloc_known hb
  obtain ⟨h3, h4⟩ := alloc_known h2
  exact ⟨h3, (show w2.heap[w.heap.size + 1]? = some (.cells ds u gr) by rw [← h1]; congr 1; exact (Array.size_push _).symm), h4⟩
/-- the fields of a word -/
def dO (v : Int) : Int := wrap64 (IntKind.u64.wrap v / 72057594037927936)
def dA (v : Int) : Int := wrap64 (bits BinOp.and IntKind.u64 (IntKind.u64.wrap v / 4503599627370496) 15)
def dB (v : Int) : Int := wrap64 (bits BinOp.and IntKind.u64 (IntKind.u64.wrap v / 281474976710656) 15)
def dC (v : Int) : Int := wrap64 (bits BinOp.and IntKind.u64 (IntKind.u64.wrap v / 17592186044416) 15)
def dI (v : Int) : Int := wrap64 (wrap32 (IntKind.u64.wrap v))
def inst (op a b c imm : Int) : Value := .agg #[.int .i64 op, .int .i64 a, .int .i64 b, .int .i64 c, .int .i64 imm]
def decB (v : Int) : Bool := encB (rg (dO v)) (im (dO v)) (ok (dO v)) (dA v) (dB v) (dC v) (dI v) && (encW (dO v) (dA v) (dB v) (dC v) (dI v) == v)
def decRes (v : Int) : Value := if decB v then .tuple #[inst (dO v) (dA v) (dB v) (dC v) (dI v), .int .i64 0] else .tuple #[inst 0 0 0 0 0, .int .i64 4]

theorem dec_any (v : Int) (w : World) :
    Calls Tryd.prog 18 #[.int .i64 v] w fun e w' => e = .returned (decRes v) ∧ Below w.heap.size w w' := by
  cases hB : encB (rg (dO v)) (im (dO v)) (ok (dO v)) (dA v) (dB v) (dC v) (dI v)
  · have hd : decRes v = .tuple #[inst 0 0 0 0 0, .int .i64 4] := by rw [decRes, decB, hB]; rfl
    rw [hd]
    have HB := Lib.hid hB
    clear hd hB
    go_enter Tryd.func18, Tryd.ntmps18
    go_wp2_with (first | (go_at_call 10; refine (enc_no _ _ _ _ _ _ HB.out).mono ?_; rintro e w2 ⟨rfl, hb⟩; refine Hid.out ?_))
    refine Lib.hid ?_
    obtain ⟨hk, hk1, hb2⟩ := alloc_known2 hb
    clear hb
    have hlt : w.heap.size < w2.heap.size := (Array.getElem?_eq_some_iff.1 hk).1
    have c0 : w2.cell? ⟨w.heap.size, 0, none⟩ = some (.int .i64 0) := by simp [World.cell?, hk]
    have c1 : w2.cell? ⟨w.heap.size, 1, none⟩ = some (.int .i64 0) := by simp [World.cell?, hk]
    have c2 : w2.cell? ⟨w.heap.size, 2, none⟩ = some (.int .i64 0) := by simp [World.cell?, hk]
    have c3 : w2.cell? ⟨w.heap.size, 3, none⟩ = some (.int .i64 0) := by simp [World.cell?, hk]
    have c4 : w2.cell? ⟨w.heap.size, 4, none⟩ = some (.int .i64 0) := by simp [World.cell?, hk]
    have f0 : ∀ i, w2.frozen? ⟨w.heap.size, i, none⟩ = false := fun i => by simp [World.frozen?, hk]
    clear hk hk1
    go_wp2
    (refine bodyPost_ret (v := .tuple #[inst _ _ _ _ _, .int .i64 _]) (by simp [results, Tryd.results18, go_sem, c0, c1, c2, c3, c4]; first | rfl | exact ⟨rfl, rfl⟩) rfl ⟨rfl, ?_⟩; exact ((((hb2.setCell (Nat.le_refl _) _).setCell (Nat.le_refl _) _).setCell (Nat.le_refl _) _).setCell (Nat.le_refl _) _).setCell (Nat.le_refl _) _)
  · cases hW : (encW (dO v) (dA v) (dB v) (dC v) (dI v) == v)
    · have hd : decRes v = .tuple #[inst 0 0 0 0 0, .int .i64 4] := by rw [decRes, decB, hB, hW]; rfl
      rw [hd]
      have HB := Lib.hid hB
      have hW' : (encW (dO v) (dA v) (dB v) (dC v) (dI v) != v) = true := by simpa using hW
      clear hd hB
      go_enter Tryd.func18, Tryd.ntmps18
      go_wp2_with (first | (go_at_call 10; refine (enc_yes _ _ _ _ _ _ HB.out).mono ?_; rintro e w2 ⟨rfl, hb⟩; refine Hid.out ?_))
      refine Lib.hid ?_
      obtain ⟨hk, hk1, hb2⟩ := alloc_known2 hb
      clear hb
      have hlt : w.heap.size < w2.heap.size := (Array.getElem?_eq_some_iff.1 hk).1
      have c0 : w2.cell? ⟨w.heap.size, 0, none⟩ = some (.int .i64 0) := by simp [World.cell?, hk]
      have c1 : w2.cell? ⟨w.heap.size, 1, none⟩ = some (.int .i64 0) := by simp [World.cell?, hk]
      have c2 : w2.cell? ⟨w.heap.size, 2, none⟩ = some (.int .i64 0) := by simp [World.cell?, hk]
      have c3 : w2.cell? ⟨w.heap.size, 3, none⟩ = some (.int .i64 0) := by simp [World.cell?, hk]
      have c4 : w2.cell? ⟨w.heap.size, 4, none⟩ = some (.int .i64 0) := by simp [World.cell?, hk]
      have f0 : ∀ i, w2.frozen? ⟨w.heap.size, i, none⟩ = false := fun i => by simp [World.frozen?, hk]
      clear hk hk1
      go_wp2
      (refine bodyPost_ret (v := .tuple #[inst _ _ _ _ _, .int .i64 _]) (by simp [results, Tryd.results18, go_sem, c0, c1, c2, c3, c4]; first | rfl | exact ⟨rfl, rfl⟩) rfl ⟨rfl, ?_⟩; exact ((((hb2.setCell (Nat.le_refl _) _).setCell (Nat.le_refl _) _).setCell (Nat.le_refl _) _).setCell (Nat.le_refl _) _).setCell (Nat.le_refl _) _)

    · have hd : decRes v = .tuple #[inst (dO v) (dA v) (dB v) (dC v) (dI v), .int .i64 0] := by rw [decRes, decB, hB, hW]; rfl
      rw [hd]
      have HB := Lib.hid hB
      have hW' : (encW (dO v) (dA v) (dB v) (dC v) (dI v) != v) = false := by simpa using hW
      clear hd hB
      go_enter Tryd.func18, Tryd.ntmps18
      go_wp2_with (first | (go_at_call 10; refine (enc_yes _ _ _ _ _ _ HB.out).mono ?_; rintro e w2 ⟨rfl, hb⟩; refine Hid.out ?_))
      refine Lib.hid ?_
      obtain ⟨hk, hk1, hb2⟩ := alloc_known2 hb
      clear hb
      have hlt : w.heap.size < w2.heap.size := (Array.getElem?_eq_some_iff.1 hk).1
      have c0 : w2.cell? ⟨w.heap.size, 0, none⟩ = some (.int .i64 0) := by simp [World.cell?, hk]
      have c1 : w2.cell? ⟨w.heap.size, 1, none⟩ = some (.int .i64 0) := by simp [World.cell?, hk]
      have c2 : w2.cell? ⟨w.heap.size, 2, none⟩ = some (.int .i64 0) := by simp [World.cell?, hk]
      have c3 : w2.cell? ⟨w.heap.size, 3, none⟩ = some (.int .i64 0) := by simp [World.cell?, hk]
      have c4 : w2.cell? ⟨w.heap.size, 4, none⟩ = some (.int .i64 0) := by simp [World.cell?, hk]
      have f0 : ∀ i, w2.frozen? ⟨w.heap.size, i, none⟩ = false := fun i => by simp [World.frozen?, hk]
      have d0 : w2.cell? ⟨w.heap.size + 1, 0, none⟩ = some (.int .i64 (dO v)) := by simp [World.cell?, hk1, dO]
      have d1 : w2.cell? ⟨w.heap.size + 1, 1, none⟩ = some (.int .i64 (dA v)) := by simp [World.cell?, hk1, dA]
      have d2 : w2.cell? ⟨w.heap.size + 1, 2, none⟩ = some (.int .i64 (dB v)) := by simp [World.cell?, hk1, dB]
      have d3 : w2.cell? ⟨w.heap.size + 1, 3, none⟩ = some (.int .i64 (dC v)) := by simp [World.cell?, hk1, dC]
      have d4 : w2.cell? ⟨w.heap.size + 1, 4, none⟩ = some (.int .i64 (dI v)) := by simp [World.cell?, hk1, dI]
      clear hk hk1
      go_wp2
      (refine bodyPost_ret (v := .tuple #[inst _ _ _ _ _, .int .i64 _]) (by simp [results, Tryd.results18, go_sem, c0, c1, c2, c3, c4]; first | rfl | exact ⟨rfl, rfl⟩) rfl ⟨rfl, ?_⟩; exact ((((hb2.setCell (Nat.le_refl _) _).setCell (Nat.le_refl _) _).setCell (Nat.le_refl _) _).setCell (Nat.le_refl _) _).setCell (Nat.le_refl _) _)

end Go.Proofs.YtpgooplokmemnaaDoor
