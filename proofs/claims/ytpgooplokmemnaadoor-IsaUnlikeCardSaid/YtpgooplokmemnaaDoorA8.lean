/- The walk of the reference's Decode. -/
import Derived.Test.YtpgooplokmemnaaDoorA7
namespace Go.Proofs.YtpgooplokmemnaaDoor
open Go Go.RowKit IsaP
set_option maxHeartbeats 4000000
set_option maxRecDepth 100000

theorem forms (v : Int) (h0 : 0 ≤ v) (h1 : v ≤ 9223372036854775807) : wrap64 ((wrap64 (v.tdiv 17592186044416)).tdiv 4096) = dO v ∧ (wrap64 ((wrap64 (v.tdiv 17592186044416)).tdiv 256)).tmod 16 = dA v ∧ (wrap64 ((wrap64 (v.tdiv 17592186044416)).tdiv 16)).tmod 16 = dB v ∧ (wrap64 (v.tdiv 17592186044416)).tmod 16 = dC v := by
  obtain ⟨e0, e1, e2, e3, -⟩ := fields v h0 h1
  rw [e0, e1, e2, e3]
  rw [Int.tdiv_eq_ediv_of_nonneg h0, w64 (v / 17592186044416) (by omega) (by omega)]
  have g : 0 ≤ v / 17592186044416 := by omega
  rw [Int.tdiv_eq_ediv_of_nonneg g, Int.tdiv_eq_ediv_of_nonneg g, Int.tdiv_eq_ediv_of_nonneg g]
  rw [w64 (v / 17592186044416 / 4096) (by omega) (by omega), w64 (v / 17592186044416 / 256) (by omega) (by omega), w64 (v / 17592186044416 / 16) (by omega) (by omega)]
  rw [Int.tmod_eq_emod_of_nonneg (by omega), Int.tmod_eq_emod_of_nonneg (by omega), Int.tmod_eq_emod_of_nonneg (by omega)]
  refine ⟨by omega, by omega, by omega, by omega⟩
theorem dec2_t0 (v : Int) (hv : 0 ≤ v) (hl : 2147483647 < v % 4294967296) (HF : Hid (wrap64 ((wrap64 (v.tdiv 17592186044416)).tdiv 4096) = dO v ∧ (wrap64 ((wrap64 (v.tdiv 17592186044416)).tdiv 256)).tmod 16 = dA v ∧ (wrap64 ((wrap64 (v.tdiv 17592186044416)).tdiv 16)).tmod 16 = dB v ∧ (wrap64 (v.tdiv 17592186044416)).tmod 16 = dC v ∧ v % 4294967296 - 4294967296 = dI v)) (hB : encB (rg (dO v)) (im (dO v)) (ok (dO v)) (dA v) (dB v) (dC v) (dI v) = false)  (w : World) :
    Calls Tryd.prog 19 #[.int .i64 v] w fun e w' => e = .returned (.tuple #[inst 0 0 0 0 0, .int .i64 4]) ∧ Below w.heap.size w w' := by
  have HB := Lib.hid hB
  clear hB
  go_enter Tryd.func19, Tryd.ntmps19
  go_wp2_with fail
  obtain ⟨E0, E1, E2, E3, E4⟩ := HF.out
  rw [E0, E1, E2, E3, E4]
  clear E0 E1 E2 E3 E4 HF
  refine (enc2_no _ _ _ _ _ _ _ _ _ _ _ HB.out ⟨rfl, rfl, rfl, rfl, rfl⟩).mono ?_
  rintro e w2 ⟨rfl, hb⟩
  obtain ⟨hk, hk1, hb2⟩ := alloc_known2 hb
  clear hb
  have hlt : w.heap.size < w2.heap.size := (Array.getElem?_eq_some_iff.1 hk).1
  have c0 : w2.cell? ⟨w.heap.size, 0, none⟩ = some (.int .i64 0) := by simp [World.cell?, hk]
  have c1 : w2.cell? ⟨w.heap.size, 1, none⟩ = some (.int .i64 0) := by simp [World.cell?, hk]
  have c2 : w2.cell? ⟨w.heap.size, 2, none⟩ = some (.int .i64 0) := by simp [World.cell?, hk]
  have c3 : w2.cell? ⟨w.heap.size, 3, none⟩ = some (.int .i64 0) := by simp [World.cell?, hk]
  have c4 : w2.cell? ⟨w.heap.size, 4, none⟩ = some (.int .i64 0) := by simp [World.cell?, hk]
  have f0 : ∀ i, w2.frozen? ⟨w.heap.size, i, none⟩ = false := fun i => by simp [World.frozen?, hk]
  clear hk hk1
  have HX := Lib.hid hb2
  clear hb2
  go_wp2
  (refine bodyPost_ret (v := .tuple #[inst _ _ _ _ _, .int .i64 _]) (by simp [results, Tryd.results19, go_sem, c0, c1, c2, c3, c4]; first | rfl | exact ⟨rfl, rfl⟩) rfl ⟨rfl, ?_⟩; exact ((((HX.out.setCell (Nat.le_refl _) _).setCell (Nat.le_refl _) _).setCell (Nat.le_refl _) _).setCell (Nat.le_refl _) _).setCell (Nat.le_refl _) _)
theorem dec2_t1 (v : Int) (hv : 0 ≤ v) (hl : 2147483647 < v % 4294967296) (HF : Hid (wrap64 ((wrap64 (v.tdiv 17592186044416)).tdiv 4096) = dO v ∧ (wrap64 ((wrap64 (v.tdiv 17592186044416)).tdiv 256)).tmod 16 = dA v ∧ (wrap64 ((wrap64 (v.tdiv 17592186044416)).tdiv 16)).tmod 16 = dB v ∧ (wrap64 (v.tdiv 17592186044416)).tmod 16 = dC v ∧ v % 4294967296 - 4294967296 = dI v)) (hB : encB (rg (dO v)) (im (dO v)) (ok (dO v)) (dA v) (dB v) (dC v) (dI v) = true) (hW : (encW (dO v) (dA v) (dB v) (dC v) (dI v) != v) = true) (w : World) :
    Calls Tryd.prog 19 #[.int .i64 v] w fun e w' => e = .returned (.tuple #[inst 0 0 0 0 0, .int .i64 4]) ∧ Below w.heap.size w w' := by
  have HB := Lib.hid hB
  clear hB
  go_enter Tryd.func19, Tryd.ntmps19
  go_wp2_with fail
  obtain ⟨E0, E1, E2, E3, E4⟩ := HF.out
  rw [E0, E1, E2, E3, E4]
  clear E0 E1 E2 E3 E4 HF
  refine (enc2_yes _ _ _ _ _ _ _ _ _ _ _ HB.out ⟨rfl, rfl, rfl, rfl, rfl⟩).mono ?_
  rintro e w2 ⟨rfl, hb⟩
  obtain ⟨hk, hk1, hb2⟩ := alloc_known2 hb
  clear hb
  have hlt : w.heap.size < w2.heap.size := (Array.getElem?_eq_some_iff.1 hk).1
  have c0 : w2.cell? ⟨w.heap.size, 0, none⟩ = some (.int .i64 0) := by simp [World.cell?, hk]
  have c1 : w2.cell? ⟨w.heap.size, 1, none⟩ = some (.int .i64 0) := by simp [World.cell?, hk]
  have c2 : w2.cell? ⟨w.heap.size, 2, none⟩ = some (.int .i64 0) := by simp [World.cell?, hk]
  have c3 : w2.cell? ⟨w.heap.size, 3, none⟩ = some (.int .i64 0) := by simp [World.cell?, hk]
  have c4 : w2.cell? ⟨w.heap.size, 4, none⟩ = some (.int .i64 0) := by simp [World.cell?, hk]
  have f0 : ∀ i, w2.frozen? ⟨w.heap.size, i, none⟩ = false := fun i => by simp [World.frozen?, hk]
  clear hk hk1
  have HX := Lib.hid hb2
  clear hb2
  go_wp2
  (refine bodyPost_ret (v := .tuple #[inst _ _ _ _ _, .int .i64 _]) (by simp [results, Tryd.results19, go_sem, c0, c1, c2, c3, c4]; first | rfl | exact ⟨rfl, rfl⟩) rfl ⟨rfl, ?_⟩; exact ((((HX.out.setCell (Nat.le_refl _) _).setCell (Nat.le_refl _) _).setCell (Nat.le_refl _) _).setCell (Nat.le_refl _) _).setCell (Nat.le_refl _) _)
theorem dec2_t2 (v : Int) (hv : 0 ≤ v) (hl : 2147483647 < v % 4294967296) (HF : Hid (wrap64 ((wrap64 (v.tdiv 17592186044416)).tdiv 4096) = dO v ∧ (wrap64 ((wrap64 (v.tdiv 17592186044416)).tdiv 256)).tmod 16 = dA v ∧ (wrap64 ((wrap64 (v.tdiv 17592186044416)).tdiv 16)).tmod 16 = dB v ∧ (wrap64 (v.tdiv 17592186044416)).tmod 16 = dC v ∧ v % 4294967296 - 4294967296 = dI v)) (hB : encB (rg (dO v)) (im (dO v)) (ok (dO v)) (dA v) (dB v) (dC v) (dI v) = true) (hW : (encW (dO v) (dA v) (dB v) (dC v) (dI v) != v) = false) (w : World) :
    Calls Tryd.prog 19 #[.int .i64 v] w fun e w' => e = .returned (.tuple #[inst (dO v) (dA v) (dB v) (dC v) (dI v), .int .i64 0]) ∧ Below w.heap.size w w' := by
  have HB := Lib.hid hB
  clear hB
  go_enter Tryd.func19, Tryd.ntmps19
  go_wp2_with fail
  obtain ⟨E0, E1, E2, E3, E4⟩ := HF.out
  rw [E0, E1, E2, E3, E4]
  clear E0 E1 E2 E3 E4 HF
  refine (enc2_yes _ _ _ _ _ _ _ _ _ _ _ HB.out ⟨rfl, rfl, rfl, rfl, rfl⟩).mono ?_
  rintro e w2 ⟨rfl, hb⟩
  obtain ⟨hk, hk1, hb2⟩ := alloc_known2 hb
  clear hb
  have hlt : w.heap.size < w2.heap.size := (Array.getElem?_eq_some_iff.1 hk).1
  have c0 : w2.cell? ⟨w.heap.size, 0, none⟩ = some (.int .i64 0) := by simp [World.cell?, hk]
  have c1 : w2.cell? ⟨w.heap.size, 1, none⟩ = some (.int .i64 0) := by simp [World.cell?, hk]
  have c2 : w2.cell? ⟨w.heap.size, 2, none⟩ = some (.int .i64 0) := by simp [World.cell?, hk]
  have c3 : w2.cell? ⟨w.heap.size, 3, none⟩ = some (.int .i64 0) := by simp [World.cell?, hk]
  have c4 : w2.cell? ⟨w.heap.size, 4, none⟩ = some (.int .i64 0) := by simp [World.cell?, hk]
  have d0 : w2.cell? ⟨w.heap.size + 1, 0, none⟩ = some (.int .i64 (dO v)) := by simp [World.cell?, hk1]
  have d1 : w2.cell? ⟨w.heap.size + 1, 1, none⟩ = some (.int .i64 (dA v)) := by simp [World.cell?, hk1]
  have d2 : w2.cell? ⟨w.heap.size + 1, 2, none⟩ = some (.int .i64 (dB v)) := by simp [World.cell?, hk1]
  have d3 : w2.cell? ⟨w.heap.size + 1, 3, none⟩ = some (.int .i64 (dC v)) := by simp [World.cell?, hk1]
  have d4 : w2.cell? ⟨w.heap.size + 1, 4, none⟩ = some (.int .i64 (dI v)) := by simp [World.cell?, hk1]
  have f0 : ∀ i, w2.frozen? ⟨w.heap.size, i, none⟩ = false := fun i => by simp [World.frozen?, hk]
  clear hk hk1
  have HX := Lib.hid hb2
  clear hb2
  go_wp2
  (refine bodyPost_ret (v := .tuple #[inst _ _ _ _ _, .int .i64 _]) (by simp [results, Tryd.results19, go_sem, c0, c1, c2, c3, c4]; first | rfl | exact ⟨rfl, rfl⟩) rfl ⟨rfl, ?_⟩; exact ((((HX.out.setCell (Nat.le_refl _) _).setCell (Nat.le_refl _) _).setCell (Nat.le_refl _) _).setCell (Nat.le_refl _) _).setCell (Nat.le_refl _) _)
theorem dec2_f0 (v : Int) (hv : 0 ≤ v) (hl : ¬ 2147483647 < v % 4294967296) (HF : Hid (wrap64 ((wrap64 (v.tdiv 17592186044416)).tdiv 4096) = dO v ∧ (wrap64 ((wrap64 (v.tdiv 17592186044416)).tdiv 256)).tmod 16 = dA v ∧ (wrap64 ((wrap64 (v.tdiv 17592186044416)).tdiv 16)).tmod 16 = dB v ∧ (wrap64 (v.tdiv 17592186044416)).tmod 16 = dC v ∧ v % 4294967296 = dI v)) (hB : encB (rg (dO v)) (im (dO v)) (ok (dO v)) (dA v) (dB v) (dC v) (dI v) = false)  (w : World) :
    Calls Tryd.prog 19 #[.int .i64 v] w fun e w' => e = .returned (.tuple #[inst 0 0 0 0 0, .int .i64 4]) ∧ Below w.heap.size w w' := by
  have HB := Lib.hid hB
  clear hB
  go_enter Tryd.func19, Tryd.ntmps19
  go_wp2_with fail
  obtain ⟨E0, E1, E2, E3, E4⟩ := HF.out
  rw [E0, E1, E2, E3, E4]
  clear E0 E1 E2 E3 E4 HF
  refine (enc2_no _ _ _ _ _ _ _ _ _ _ _ HB.out ⟨rfl, rfl, rfl, rfl, rfl⟩).mono ?_
  rintro e w2 ⟨rfl, hb⟩
  obtain ⟨hk, hk1, hb2⟩ := alloc_known2 hb
  clear hb
  have hlt : w.heap.size < w2.heap.size := (Array.getElem?_eq_some_iff.1 hk).1
  have c0 : w2.cell? ⟨w.heap.size, 0, none⟩ = some (.int .i64 0) := by simp [World.cell?, hk]
  have c1 : w2.cell? ⟨w.heap.size, 1, none⟩ = some (.int .i64 0) := by simp [World.cell?, hk]
  have c2 : w2.cell? ⟨w.heap.size, 2, none⟩ = some (.int .i64 0) := by simp [World.cell?, hk]
  have c3 : w2.cell? ⟨w.heap.size, 3, none⟩ = some (.int .i64 0) := by simp [World.cell?, hk]
  have c4 : w2.cell? ⟨w.heap.size, 4, none⟩ = some (.int .i64 0) := by simp [World.cell?, hk]
  have f0 : ∀ i, w2.frozen? ⟨w.heap.size, i, none⟩ = false := fun i => by simp [World.frozen?, hk]
  clear hk hk1
  have HX := Lib.hid hb2
  clear hb2
  go_wp2
  (refine bodyPost_ret (v := .tuple #[inst _ _ _ _ _, .int .i64 _]) (by simp [results, Tryd.results19, go_sem, c0, c1, c2, c3, c4]; first | rfl | exact ⟨rfl, rfl⟩) rfl ⟨rfl, ?_⟩; exact ((((HX.out.setCell (Nat.le_refl _) _).setCell (Nat.le_refl _) _).setCell (Nat.le_refl _) _).setCell (Nat.le_refl _) _).setCell (Nat.le_refl _) _)
theorem dec2_f1 (v : Int) (hv : 0 ≤ v) (hl : ¬ 2147483647 < v % 4294967296) (HF : Hid (wrap64 ((wrap64 (v.tdiv 17592186044416)).tdiv 4096) = dO v ∧ (wrap64 ((wrap64 (v.tdiv 17592186044416)).tdiv 256)).tmod 16 = dA v ∧ (wrap64 ((wrap64 (v.tdiv 17592186044416)).tdiv 16)).tmod 16 = dB v ∧ (wrap64 (v.tdiv 17592186044416)).tmod 16 = dC v ∧ v % 4294967296 = dI v)) (hB : encB (rg (dO v)) (im (dO v)) (ok (dO v)) (dA v) (dB v) (dC v) (dI v) = true) (hW : (encW (dO v) (dA v) (dB v) (dC v) (dI v) != v) = true) (w : World) :
    Calls Tryd.prog 19 #[.int .i64 v] w fun e w' => e = .returned (.tuple #[inst 0 0 0 0 0, .int .i64 4]) ∧ Below w.heap.size w w' := by
  have HB := Lib.hid hB
  clear hB
  go_enter Tryd.func19, Tryd.ntmps19
  go_wp2_with fail
  obtain ⟨E0, E1, E2, E3, E4⟩ := HF.out
  rw [E0, E1, E2, E3, E4]
  clear E0 E1 E2 E3 E4 HF
  refine (enc2_yes _ _ _ _ _ _ _ _ _ _ _ HB.out ⟨rfl, rfl, rfl, rfl, rfl⟩).mono ?_
  rintro e w2 ⟨rfl, hb⟩
  obtain ⟨hk, hk1, hb2⟩ := alloc_known2 hb
  clear hb
  have hlt : w.heap.size < w2.heap.size := (Array.getElem?_eq_some_iff.1 hk).1
  have c0 : w2.cell? ⟨w.heap.size, 0, none⟩ = some (.int .i64 0) := by simp [World.cell?, hk]
  have c1 : w2.cell? ⟨w.heap.size, 1, none⟩ = some (.int .i64 0) := by simp [World.cell?, hk]
  have c2 : w2.cell? ⟨w.heap.size, 2, none⟩ = some (.int .i64 0) := by simp [World.cell?, hk]
  have c3 : w2.cell? ⟨w.heap.size, 3, none⟩ = some (.int .i64 0) := by simp [World.cell?, hk]
  have c4 : w2.cell? ⟨w.heap.size, 4, none⟩ = some (.int .i64 0) := by simp [World.cell?, hk]
  have f0 : ∀ i, w2.frozen? ⟨w.heap.size, i, none⟩ = false := fun i => by simp [World.frozen?, hk]
  clear hk hk1
  have HX := Lib.hid hb2
  clear hb2
  go_wp2
  (refine bodyPost_ret (v := .tuple #[inst _ _ _ _ _, .int .i64 _]) (by simp [results, Tryd.results19, go_sem, c0, c1, c2, c3, c4]; first | rfl | exact ⟨rfl, rfl⟩) rfl ⟨rfl, ?_⟩; exact ((((HX.out.setCell (Nat.le_refl _) _).setCell (Nat.le_refl _) _).setCell (Nat.le_refl _) _).setCell (Nat.le_refl _) _).setCell (Nat.le_refl _) _)
theorem dec2_f2 (v : Int) (hv : 0 ≤ v) (hl : ¬ 2147483647 < v % 4294967296) (HF : Hid (wrap64 ((wrap64 (v.tdiv 17592186044416)).tdiv 4096) = dO v ∧ (wrap64 ((wrap64 (v.tdiv 17592186044416)).tdiv 256)).tmod 16 = dA v ∧ (wrap64 ((wrap64 (v.tdiv 17592186044416)).tdiv 16)).tmod 16 = dB v ∧ (wrap64 (v.tdiv 17592186044416)).tmod 16 = dC v ∧ v % 4294967296 = dI v)) (hB : encB (rg (dO v)) (im (dO v)) (ok (dO v)) (dA v) (dB v) (dC v) (dI v) = true) (hW : (encW (dO v) (dA v) (dB v) (dC v) (dI v) != v) = false) (w : World) :
    Calls Tryd.prog 19 #[.int .i64 v] w fun e w' => e = .returned (.tuple #[inst (dO v) (dA v) (dB v) (dC v) (dI v), .int .i64 0]) ∧ Below w.heap.size w w' := by
  have HB := Lib.hid hB
  clear hB
  go_enter Tryd.func19, Tryd.ntmps19
  go_wp2_with fail
  obtain ⟨E0, E1, E2, E3, E4⟩ := HF.out
  rw [E0, E1, E2, E3, E4]
  clear E0 E1 E2 E3 E4 HF
  refine (enc2_yes _ _ _ _ _ _ _ _ _ _ _ HB.out ⟨rfl, rfl, rfl, rfl, rfl⟩).mono ?_
  rintro e w2 ⟨rfl, hb⟩
  obtain ⟨hk, hk1, hb2⟩ := alloc_known2 hb
  clear hb
  have hlt : w.heap.size < w2.heap.size := (Array.getElem?_eq_some_iff.1 hk).1
  have c0 : w2.cell? ⟨w.heap.size, 0, none⟩ = some (.int .i64 0) := by simp [World.cell?, hk]
  have c1 : w2.cell? ⟨w.heap.size, 1, none⟩ = some (.int .i64 0) := by simp [World.cell?, hk]
  have c2 : w2.cell? ⟨w.heap.size, 2, none⟩ = some (.int .i64 0) := by simp [World.cell?, hk]
  have c3 : w2.cell? ⟨w.heap.size, 3, none⟩ = some (.int .i64 0) := by simp [World.cell?, hk]
  have c4 : w2.cell? ⟨w.heap.size, 4, none⟩ = some (.int .i64 0) := by simp [World.cell?, hk]
  have d0 : w2.cell? ⟨w.heap.size + 1, 0, none⟩ = some (.int .i64 (dO v)) := by simp [World.cell?, hk1]
  have d1 : w2.cell? ⟨w.heap.size + 1, 1, none⟩ = some (.int .i64 (dA v)) := by simp [World.cell?, hk1]
  have d2 : w2.cell? ⟨w.heap.size + 1, 2, none⟩ = some (.int .i64 (dB v)) := by simp [World.cell?, hk1]
  have d3 : w2.cell? ⟨w.heap.size + 1, 3, none⟩ = some (.int .i64 (dC v)) := by simp [World.cell?, hk1]
  have d4 : w2.cell? ⟨w.heap.size + 1, 4, none⟩ = some (.int .i64 (dI v)) := by simp [World.cell?, hk1]
  have f0 : ∀ i, w2.frozen? ⟨w.heap.size, i, none⟩ = false := fun i => by simp [World.frozen?, hk]
  clear hk hk1
  have HX := Lib.hid hb2
  clear hb2
  go_wp2
  (refine bodyPost_ret (v := .tuple #[inst _ _ _ _ _, .int .i64 _]) (by simp [results, Tryd.results19, go_sem, c0, c1, c2, c3, c4]; first | rfl | exact ⟨rfl, rfl⟩) rfl ⟨rfl, ?_⟩; exact ((((HX.out.setCell (Nat.le_refl _) _).setCell (Nat.le_refl _) _).setCell (Nat.le_refl _) _).setCell (Nat.le_refl _) _).setCell (Nat.le_refl _) _)
theorem dec2_any (v : Int) (hv0 : -9223372036854775808 ≤ v) (hv1 : v ≤ 9223372036854775807) (w : World) :
    Calls Tryd.prog 19 #[.int .i64 v] w fun e w' => e = .returned (decRes v) ∧ Below w.heap.size w w' := by
  by_cases hv : v < 0
  · have hd : decRes v = .tuple #[inst 0 0 0 0 0, .int .i64 4] := by rw [decRes, dO_neg v hv hv0]; rfl
    rw [hd]
    clear hd
    go_enter Tryd.func19, Tryd.ntmps19
    go_wp2
    (refine bodyPost_ret (v := .tuple #[inst _ _ _ _ _, .int .i64 _]) (by simp [results, Tryd.results19, go_sem]; first | rfl | exact ⟨rfl, rfl⟩) rfl ⟨rfl, ?_⟩; exact (Below.refl _ _).alloc (Nat.le_refl _) _)
  have hv2 : 0 ≤ v := by omega
  obtain ⟨q0, q1, q2, q3⟩ := forms v hv2 hv1
  obtain ⟨-, -, -, -, q4⟩ := fields v hv2 hv1
  by_cases hl : 2147483647 < v % 4294967296
  · rw [if_pos hl] at q4
    have HF : Hid (wrap64 ((wrap64 (v.tdiv 17592186044416)).tdiv 4096) = dO v ∧ (wrap64 ((wrap64 (v.tdiv 17592186044416)).tdiv 256)).tmod 16 = dA v ∧ (wrap64 ((wrap64 (v.tdiv 17592186044416)).tdiv 16)).tmod 16 = dB v ∧ (wrap64 (v.tdiv 17592186044416)).tmod 16 = dC v ∧ v % 4294967296 - 4294967296 = dI v) := Lib.hid ⟨q0, q1, q2, q3, q4.symm⟩
    clear q0 q1 q2 q3 q4
    cases hB : encB (rg (dO v)) (im (dO v)) (ok (dO v)) (dA v) (dB v) (dC v) (dI v)
    · have hd : decRes v = .tuple #[inst 0 0 0 0 0, .int .i64 4] := by rw [decRes, decB, hB]; rfl
      rw [hd]
      exact dec2_t0 v hv2 hl HF hB w
    · cases hW : (encW (dO v) (dA v) (dB v) (dC v) (dI v) == v)
      · have hd : decRes v = .tuple #[inst 0 0 0 0 0, .int .i64 4] := by rw [decRes, decB, hB, hW]; rfl
        rw [hd]
        exact dec2_t1 v hv2 hl HF hB (by simpa using hW) w
      · have hd : decRes v = .tuple #[inst (dO v) (dA v) (dB v) (dC v) (dI v), .int .i64 0] := by rw [decRes, decB, hB, hW]; rfl
        rw [hd]
        exact dec2_t2 v hv2 hl HF hB (by simpa using hW) w
  · rw [if_neg hl] at q4
    have HF : Hid (wrap64 ((wrap64 (v.tdiv 17592186044416)).tdiv 4096) = dO v ∧ (wrap64 ((wrap64 (v.tdiv 17592186044416)).tdiv 256)).tmod 16 = dA v ∧ (wrap64 ((wrap64 (v.tdiv 17592186044416)).tdiv 16)).tmod 16 = dB v ∧ (wrap64 (v.tdiv 17592186044416)).tmod 16 = dC v ∧ v % 4294967296 = dI v) := Lib.hid ⟨q0, q1, q2, q3, q4.symm⟩
    clear q0 q1 q2 q3 q4
    cases hB : encB (rg (dO v)) (im (dO v)) (ok (dO v)) (dA v) (dB v) (dC v) (dI v)
    · have hd : decRes v = .tuple #[inst 0 0 0 0 0, .int .i64 4] := by rw [decRes, decB, hB]; rfl
      rw [hd]
      exact dec2_f0 v hv2 hl HF hB w
    · cases hW : (encW (dO v) (dA v) (dB v) (dC v) (dI v) == v)
      · have hd : decRes v = .tuple #[inst 0 0 0 0 0, .int .i64 4] := by rw [decRes, decB, hB, hW]; rfl
        rw [hd]
        exact dec2_f1 v hv2 hl HF hB (by simpa using hW) w
      · have hd : decRes v = .tuple #[inst (dO v) (dA v) (dB v) (dC v) (dI v), .int .i64 0] := by rw [decRes, decB, hB, hW]; rfl
        rw [hd]
        exact dec2_f2 v hv2 hl HF hB (by simpa using hW) w
end Go.Proofs.YtpgooplokmemnaaDoor
