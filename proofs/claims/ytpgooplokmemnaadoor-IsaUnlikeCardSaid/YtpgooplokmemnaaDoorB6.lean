/- The walk of IsaUnlike. -/
import Derived.Test.YtpgooplokmemnaaDoorB5
namespace Go.Proofs.YtpgooplokmemnaaDoor
open Go Go.RowKit Go.Sort IsaP
set_option maxHeartbeats 4000000
set_option maxRecDepth 100000

theorem unlike_bad1 (o a b c i o' a' b' c' i' : Int) (V V' E : Int) (w : World) (ht : Hid (Tab w))
    (h1 : ∀ w, Calls Tryd.prog 10 #[.agg #[.int .i64 o, .int .i64 a, .int .i64 b, .int .i64 c, .int .i64 i]] w fun e w' => e = .returned (.tuple #[.int .i64 V, .int .i64 4]) ∧ Below w.heap.size w w')
    (h2 : ∀ w, Calls Tryd.prog 10 #[.agg #[.int .i64 o', .int .i64 a', .int .i64 b', .int .i64 c', .int .i64 i']] w fun e w' => e = .returned (.tuple #[.int .i64 V', .int .i64 E]) ∧ Below w.heap.size w w') :
    Calls Tryd.prog 5 #[.agg #[.int .i64 o, .int .i64 a, .int .i64 b, .int .i64 c, .int .i64 i], .agg #[.int .i64 o', .int .i64 a', .int .i64 b', .int .i64 c', .int .i64 i']] w fun e w' => e = .returned (.bool true) ∧ Below w.heap.size w w' := by
  go_enter Tryd.func5, Tryd.ntmps5
  go_wp2_with (first | (go_at_call 10; refine (h1 _).mono ?_; rintro e w2 ⟨rfl, hb⟩; refine Hid.out ?_))
  refine Lib.hid ?_
  obtain ⟨hk, hk1, hb2⟩ := alloc_known2 hb
  have c0 : w2.cell? ⟨w.heap.size, 0, none⟩ = some (.int .i64 o) := by simp [World.cell?, hk]
  have d0 : w2.cell? ⟨w.heap.size + 1, 0, none⟩ = some (.int .i64 o') := by simp [World.cell?, hk1]
  have c1 : w2.cell? ⟨w.heap.size, 1, none⟩ = some (.int .i64 a) := by simp [World.cell?, hk]
  have d1 : w2.cell? ⟨w.heap.size + 1, 1, none⟩ = some (.int .i64 a') := by simp [World.cell?, hk1]
  have c2 : w2.cell? ⟨w.heap.size, 2, none⟩ = some (.int .i64 b) := by simp [World.cell?, hk]
  have d2 : w2.cell? ⟨w.heap.size + 1, 2, none⟩ = some (.int .i64 b') := by simp [World.cell?, hk1]
  have c3 : w2.cell? ⟨w.heap.size, 3, none⟩ = some (.int .i64 c) := by simp [World.cell?, hk]
  have d3 : w2.cell? ⟨w.heap.size + 1, 3, none⟩ = some (.int .i64 c') := by simp [World.cell?, hk1]
  have c4 : w2.cell? ⟨w.heap.size, 4, none⟩ = some (.int .i64 i) := by simp [World.cell?, hk]
  have d4 : w2.cell? ⟨w.heap.size + 1, 4, none⟩ = some (.int .i64 i') := by simp [World.cell?, hk1]
  have HK := Lib.hid hk
  have HK1 := Lib.hid hk1
  have hlt : w.heap.size < w2.heap.size := (Array.getElem?_eq_some_iff.1 hk).1
  have hlt1 : w.heap.size + 1 < w2.heap.size := (Array.getElem?_eq_some_iff.1 hk1).1
  have HB := Lib.hid hb2
  clear hb hk hk1 hb2
  go_wp2_with (first | (go_at_call 10; refine (h2 _).mono ?_; rintro e w3 ⟨rfl, hb3⟩; refine Hid.out ?_))
  refine Lib.hid ?_
  have HB3 := Lib.hid (HB.out.trans (hb3.mono HB.out.size))
  clear hb3
  go_wp2_with (first | (go_at_call 12; refine (num_any _ _).mono ?_; rintro e w6 ⟨rfl, rfl⟩) | (go_at_call 13; refine (awake_any _ (Lib.hid (tab_of ht HB3.out))).mono ?_; rintro e w5 ⟨rfl, hb5⟩))
  go_ret
  exact ⟨rfl, HB3.out.trans (hb5.mono HB3.out.size)⟩
theorem unlike_bad2 (o a b c i o' a' b' c' i' : Int) (V V' : Int) (w : World) (ht : Hid (Tab w))
    (h1 : ∀ w, Calls Tryd.prog 10 #[.agg #[.int .i64 o, .int .i64 a, .int .i64 b, .int .i64 c, .int .i64 i]] w fun e w' => e = .returned (.tuple #[.int .i64 V, .int .i64 0]) ∧ Below w.heap.size w w')
    (h2 : ∀ w, Calls Tryd.prog 10 #[.agg #[.int .i64 o', .int .i64 a', .int .i64 b', .int .i64 c', .int .i64 i']] w fun e w' => e = .returned (.tuple #[.int .i64 V', .int .i64 4]) ∧ Below w.heap.size w w') :
    Calls Tryd.prog 5 #[.agg #[.int .i64 o, .int .i64 a, .int .i64 b, .int .i64 c, .int .i64 i], .agg #[.int .i64 o', .int .i64 a', .int .i64 b', .int .i64 c', .int .i64 i']] w fun e w' => e = .returned (.bool true) ∧ Below w.heap.size w w' := by
  go_enter Tryd.func5, Tryd.ntmps5
  go_wp2_with (first | (go_at_call 10; refine (h1 _).mono ?_; rintro e w2 ⟨rfl, hb⟩; refine Hid.out ?_))
  refine Lib.hid ?_
  obtain ⟨hk, hk1, hb2⟩ := alloc_known2 hb
  have c0 : w2.cell? ⟨w.heap.size, 0, none⟩ = some (.int .i64 o) := by simp [World.cell?, hk]
  have d0 : w2.cell? ⟨w.heap.size + 1, 0, none⟩ = some (.int .i64 o') := by simp [World.cell?, hk1]
  have c1 : w2.cell? ⟨w.heap.size, 1, none⟩ = some (.int .i64 a) := by simp [World.cell?, hk]
  have d1 : w2.cell? ⟨w.heap.size + 1, 1, none⟩ = some (.int .i64 a') := by simp [World.cell?, hk1]
  have c2 : w2.cell? ⟨w.heap.size, 2, none⟩ = some (.int .i64 b) := by simp [World.cell?, hk]
  have d2 : w2.cell? ⟨w.heap.size + 1, 2, none⟩ = some (.int .i64 b') := by simp [World.cell?, hk1]
  have c3 : w2.cell? ⟨w.heap.size, 3, none⟩ = some (.int .i64 c) := by simp [World.cell?, hk]
  have d3 : w2.cell? ⟨w.heap.size + 1, 3, none⟩ = some (.int .i64 c') := by simp [World.cell?, hk1]
  have c4 : w2.cell? ⟨w.heap.size, 4, none⟩ = some (.int .i64 i) := by simp [World.cell?, hk]
  have d4 : w2.cell? ⟨w.heap.size + 1, 4, none⟩ = some (.int .i64 i') := by simp [World.cell?, hk1]
  have HK := Lib.hid hk
  have HK1 := Lib.hid hk1
  have hlt : w.heap.size < w2.heap.size := (Array.getElem?_eq_some_iff.1 hk).1
  have hlt1 : w.heap.size + 1 < w2.heap.size := (Array.getElem?_eq_some_iff.1 hk1).1
  have HB := Lib.hid hb2
  clear hb hk hk1 hb2
  go_wp2_with (first | (go_at_call 10; refine (h2 _).mono ?_; rintro e w3 ⟨rfl, hb3⟩; refine Hid.out ?_))
  refine Lib.hid ?_
  have HB3 := Lib.hid (HB.out.trans (hb3.mono HB.out.size))
  clear hb3
  go_wp2_with (first | (go_at_call 12; refine (num_any _ _).mono ?_; rintro e w6 ⟨rfl, rfl⟩) | (go_at_call 13; refine (awake_any _ (Lib.hid (tab_of ht HB3.out))).mono ?_; rintro e w5 ⟨rfl, hb5⟩))
  go_ret
  exact ⟨rfl, HB3.out.trans (hb5.mono HB3.out.size)⟩
theorem unlike_same (o a b c i : Int) (V : Int) (X : List UInt8) (w : World) (ht : Hid (Tab w)) 
    (h1 : ∀ w, Calls Tryd.prog 10 #[.agg #[.int .i64 o, .int .i64 a, .int .i64 b, .int .i64 c, .int .i64 i]] w fun e w' => e = .returned (.tuple #[.int .i64 V, .int .i64 0]) ∧ Below w.heap.size w w')
    (h2 : ∀ w, Calls Tryd.prog 10 #[.agg #[.int .i64 o, .int .i64 a, .int .i64 b, .int .i64 c, .int .i64 i]] w fun e w' => e = .returned (.tuple #[.int .i64 V, .int .i64 0]) ∧ Below w.heap.size w w')
    (x1 : ∀ w, Tab w → Calls Tryd.prog 14 #[.agg #[.int .i64 o, .int .i64 a, .int .i64 b, .int .i64 c, .int .i64 i]] w fun e w' => e = .returned (.string ⟨X.toArray⟩) ∧ Below w.heap.size w w')
    (x2 : ∀ w, Tab w → Calls Tryd.prog 14 #[.agg #[.int .i64 o, .int .i64 a, .int .i64 b, .int .i64 c, .int .i64 i]] w fun e w' => e = .returned (.string ⟨X.toArray⟩) ∧ Below w.heap.size w w') :
    Calls Tryd.prog 5 #[.agg #[.int .i64 o, .int .i64 a, .int .i64 b, .int .i64 c, .int .i64 i], .agg #[.int .i64 o, .int .i64 a, .int .i64 b, .int .i64 c, .int .i64 i]] w fun e w' => e = .returned (.bool true) ∧ Below w.heap.size w w' := by
  go_enter Tryd.func5, Tryd.ntmps5
  go_wp2_with (first | (go_at_call 10; refine (h1 _).mono ?_; rintro e w2 ⟨rfl, hb⟩; refine Hid.out ?_))
  refine Lib.hid ?_
  obtain ⟨hk, hk1, hb2⟩ := alloc_known2 hb
  have c0 : w2.cell? ⟨w.heap.size, 0, none⟩ = some (.int .i64 o) := by simp [World.cell?, hk]
  have d0 : w2.cell? ⟨w.heap.size + 1, 0, none⟩ = some (.int .i64 o) := by simp [World.cell?, hk1]
  have c1 : w2.cell? ⟨w.heap.size, 1, none⟩ = some (.int .i64 a) := by simp [World.cell?, hk]
  have d1 : w2.cell? ⟨w.heap.size + 1, 1, none⟩ = some (.int .i64 a) := by simp [World.cell?, hk1]
  have c2 : w2.cell? ⟨w.heap.size, 2, none⟩ = some (.int .i64 b) := by simp [World.cell?, hk]
  have d2 : w2.cell? ⟨w.heap.size + 1, 2, none⟩ = some (.int .i64 b) := by simp [World.cell?, hk1]
  have c3 : w2.cell? ⟨w.heap.size, 3, none⟩ = some (.int .i64 c) := by simp [World.cell?, hk]
  have d3 : w2.cell? ⟨w.heap.size + 1, 3, none⟩ = some (.int .i64 c) := by simp [World.cell?, hk1]
  have c4 : w2.cell? ⟨w.heap.size, 4, none⟩ = some (.int .i64 i) := by simp [World.cell?, hk]
  have d4 : w2.cell? ⟨w.heap.size + 1, 4, none⟩ = some (.int .i64 i) := by simp [World.cell?, hk1]
  have HK := Lib.hid hk
  have HK1 := Lib.hid hk1
  have hlt : w.heap.size < w2.heap.size := (Array.getElem?_eq_some_iff.1 hk).1
  have hlt1 : w.heap.size + 1 < w2.heap.size := (Array.getElem?_eq_some_iff.1 hk1).1
  have HB := Lib.hid hb2
  clear hb hk hk1 hb2
  go_wp2_with (first | (go_at_call 10; refine (h2 _).mono ?_; rintro e w3 ⟨rfl, hb3⟩; refine Hid.out ?_))
  refine Lib.hid ?_
  have HB3 := Lib.hid (HB.out.trans (hb3.mono HB.out.size))
  have hk := (hb3.block _ hlt).trans HK.out
  have hk1 := (hb3.block _ hlt1).trans HK1.out
  have k0 := cell_regrown (show w3.cell? ⟨w.heap.size, 0, none⟩ = some (.int .i64 o) by simp [World.cell?, hk])
  have l0 := cell_regrown (show w3.cell? ⟨w.heap.size + 1, 0, none⟩ = some (.int .i64 o) by simp [World.cell?, hk1])
  have k1 := cell_regrown (show w3.cell? ⟨w.heap.size, 1, none⟩ = some (.int .i64 a) by simp [World.cell?, hk])
  have l1 := cell_regrown (show w3.cell? ⟨w.heap.size + 1, 1, none⟩ = some (.int .i64 a) by simp [World.cell?, hk1])
  have k2 := cell_regrown (show w3.cell? ⟨w.heap.size, 2, none⟩ = some (.int .i64 b) by simp [World.cell?, hk])
  have l2 := cell_regrown (show w3.cell? ⟨w.heap.size + 1, 2, none⟩ = some (.int .i64 b) by simp [World.cell?, hk1])
  have k3 := cell_regrown (show w3.cell? ⟨w.heap.size, 3, none⟩ = some (.int .i64 c) by simp [World.cell?, hk])
  have l3 := cell_regrown (show w3.cell? ⟨w.heap.size + 1, 3, none⟩ = some (.int .i64 c) by simp [World.cell?, hk1])
  have k4 := cell_regrown (show w3.cell? ⟨w.heap.size, 4, none⟩ = some (.int .i64 i) by simp [World.cell?, hk])
  have l4 := cell_regrown (show w3.cell? ⟨w.heap.size + 1, 4, none⟩ = some (.int .i64 i) by simp [World.cell?, hk1])
  have HT3 := Lib.hid (tab_of ht HB3.out)
  have cX := fun d os => Calls.regrown_of (x1 _ (tab_of HT3 (below_regrown w3 d os)))
  have cY := fun d os => Calls.regrown_of (x2 _ (tab_of HT3 (below_regrown w3 d os)))
  have cZ := fun d os => Calls.regrown_of (awake_any _ (Lib.hid (tab_of HT3 (below_regrown w3 d os))))
  clear hb3 hk hk1 x1 x2 h1 h2 c0 c1 c2 c3 c4 d0 d1 d2 d3 d4
  go_wp2_with (first | (go_at_call 12; refine (num_any _ _).mono ?_; rintro e w6 ⟨rfl, rfl⟩) | (refine wp_region_quiet_below (by kernel_rfl) (by kernel_rfl) ?_; quiet_step (fail); quiet_step (fail); quiet_step (fail); quiet_step (fail); quiet_step (fail); quiet_step (fail); quiet_step (fail); quiet_step (fail); quiet_step (fail); quiet_step (exact cX _ _); quiet_step (fail); quiet_step (exact cY _ _); quiet_step (fail); quiet_step (fail); quiet_step (fail); quiet_step (fail); quiet_step (fail); quiet_step (fail); quiet_step (fail); quiet_step (exact cZ _ _); quiet_step (fail); quiet_step (fail); refine wpQuiet_nil ?_; intro _ hw'; obtain ⟨⟨dq, osq⟩, hw''⟩ := hw'; subst hw''))
  go_wp2
  go_ret
  exact ⟨rfl, HB3.out.trans ((below_regrown _ dq osq).mono HB3.out.size)⟩
theorem unlike_0 (o a b c i o' a' b' c' i' : Int) (V V' : Int) (X X' : List UInt8) (w : World) (ht : Hid (Tab w)) (hV : (V == V') = false) (hX : (X == X') = false) (hne : ¬ o = o')
    (h1 : ∀ w, Calls Tryd.prog 10 #[.agg #[.int .i64 o, .int .i64 a, .int .i64 b, .int .i64 c, .int .i64 i]] w fun e w' => e = .returned (.tuple #[.int .i64 V, .int .i64 0]) ∧ Below w.heap.size w w')
    (h2 : ∀ w, Calls Tryd.prog 10 #[.agg #[.int .i64 o', .int .i64 a', .int .i64 b', .int .i64 c', .int .i64 i']] w fun e w' => e = .returned (.tuple #[.int .i64 V', .int .i64 0]) ∧ Below w.heap.size w w')
    (x1 : ∀ w, Tab w → Calls Tryd.prog 14 #[.agg #[.int .i64 o, .int .i64 a, .int .i64 b, .int .i64 c, .int .i64 i]] w fun e w' => e = .returned (.string ⟨X.toArray⟩) ∧ Below w.heap.size w w')
    (x2 : ∀ w, Tab w → Calls Tryd.prog 14 #[.agg #[.int .i64 o', .int .i64 a', .int .i64 b', .int .i64 c', .int .i64 i']] w fun e w' => e = .returned (.string ⟨X'.toArray⟩) ∧ Below w.heap.size w w') :
    Calls Tryd.prog 5 #[.agg #[.int .i64 o, .int .i64 a, .int .i64 b, .int .i64 c, .int .i64 i], .agg #[.int .i64 o', .int .i64 a', .int .i64 b', .int .i64 c', .int .i64 i']] w fun e w' => e = .returned (.bool true) ∧ Below w.heap.size w w' := by
  go_enter Tryd.func5, Tryd.ntmps5
  go_wp2_with (first | (go_at_call 10; refine (h1 _).mono ?_; rintro e w2 ⟨rfl, hb⟩; refine Hid.out ?_))
  refine Lib.hid ?_
  obtain ⟨hk, hk1, hb2⟩ := alloc_known2 hb
  have c0 : w2.cell? ⟨w.heap.size, 0, none⟩ = some (.int .i64 o) := by simp [World.cell?, hk]
  have d0 : w2.cell? ⟨w.heap.size + 1, 0, none⟩ = some (.int .i64 o') := by simp [World.cell?, hk1]
  have c1 : w2.cell? ⟨w.heap.size, 1, none⟩ = some (.int .i64 a) := by simp [World.cell?, hk]
  have d1 : w2.cell? ⟨w.heap.size + 1, 1, none⟩ = some (.int .i64 a') := by simp [World.cell?, hk1]
  have c2 : w2.cell? ⟨w.heap.size, 2, none⟩ = some (.int .i64 b) := by simp [World.cell?, hk]
  have d2 : w2.cell? ⟨w.heap.size + 1, 2, none⟩ = some (.int .i64 b') := by simp [World.cell?, hk1]
  have c3 : w2.cell? ⟨w.heap.size, 3, none⟩ = some (.int .i64 c) := by simp [World.cell?, hk]
  have d3 : w2.cell? ⟨w.heap.size + 1, 3, none⟩ = some (.int .i64 c') := by simp [World.cell?, hk1]
  have c4 : w2.cell? ⟨w.heap.size, 4, none⟩ = some (.int .i64 i) := by simp [World.cell?, hk]
  have d4 : w2.cell? ⟨w.heap.size + 1, 4, none⟩ = some (.int .i64 i') := by simp [World.cell?, hk1]
  have HK := Lib.hid hk
  have HK1 := Lib.hid hk1
  have hlt : w.heap.size < w2.heap.size := (Array.getElem?_eq_some_iff.1 hk).1
  have hlt1 : w.heap.size + 1 < w2.heap.size := (Array.getElem?_eq_some_iff.1 hk1).1
  have HB := Lib.hid hb2
  clear hb hk hk1 hb2
  go_wp2_with (first | (go_at_call 10; refine (h2 _).mono ?_; rintro e w3 ⟨rfl, hb3⟩; refine Hid.out ?_))
  refine Lib.hid ?_
  have HB3 := Lib.hid (HB.out.trans (hb3.mono HB.out.size))
  have hk := (hb3.block _ hlt).trans HK.out
  have hk1 := (hb3.block _ hlt1).trans HK1.out
  have k0 := cell_regrown (show w3.cell? ⟨w.heap.size, 0, none⟩ = some (.int .i64 o) by simp [World.cell?, hk])
  have l0 := cell_regrown (show w3.cell? ⟨w.heap.size + 1, 0, none⟩ = some (.int .i64 o') by simp [World.cell?, hk1])
  have k1 := cell_regrown (show w3.cell? ⟨w.heap.size, 1, none⟩ = some (.int .i64 a) by simp [World.cell?, hk])
  have l1 := cell_regrown (show w3.cell? ⟨w.heap.size + 1, 1, none⟩ = some (.int .i64 a') by simp [World.cell?, hk1])
  have k2 := cell_regrown (show w3.cell? ⟨w.heap.size, 2, none⟩ = some (.int .i64 b) by simp [World.cell?, hk])
  have l2 := cell_regrown (show w3.cell? ⟨w.heap.size + 1, 2, none⟩ = some (.int .i64 b') by simp [World.cell?, hk1])
  have k3 := cell_regrown (show w3.cell? ⟨w.heap.size, 3, none⟩ = some (.int .i64 c) by simp [World.cell?, hk])
  have l3 := cell_regrown (show w3.cell? ⟨w.heap.size + 1, 3, none⟩ = some (.int .i64 c') by simp [World.cell?, hk1])
  have k4 := cell_regrown (show w3.cell? ⟨w.heap.size, 4, none⟩ = some (.int .i64 i) by simp [World.cell?, hk])
  have l4 := cell_regrown (show w3.cell? ⟨w.heap.size + 1, 4, none⟩ = some (.int .i64 i') by simp [World.cell?, hk1])
  have HT3 := Lib.hid (tab_of ht HB3.out)
  have cX := fun d os => Calls.regrown_of (x1 _ (tab_of HT3 (below_regrown w3 d os)))
  have cY := fun d os => Calls.regrown_of (x2 _ (tab_of HT3 (below_regrown w3 d os)))
  have cZ := fun d os => Calls.regrown_of (awake_any _ (Lib.hid (tab_of HT3 (below_regrown w3 d os))))
  clear hb3 hk hk1 x1 x2 h1 h2 c0 c1 c2 c3 c4 d0 d1 d2 d3 d4
  go_wp2_with (first | (go_at_call 12; refine (num_any _ _).mono ?_; rintro e w6 ⟨rfl, rfl⟩) | (refine wp_region_quiet_below (by kernel_rfl) (by kernel_rfl) ?_; quiet_step (fail); quiet_step (fail); quiet_step (fail); quiet_step (fail); quiet_step (fail); quiet_step (fail); quiet_step (fail); quiet_step (fail); quiet_step (fail); quiet_step (exact cX _ _); quiet_step (fail); quiet_step (exact cY _ _); quiet_step (fail); quiet_step (fail); quiet_step (fail); quiet_step (fail); quiet_step (fail); quiet_step (fail); quiet_step (fail); quiet_step (exact cZ _ _); quiet_step (fail); quiet_step (fail); refine wpQuiet_nil ?_; intro _ hw'; obtain ⟨⟨dq, osq⟩, hw''⟩ := hw'; subst hw''))
  go_wp2
  go_ret
  exact ⟨rfl, HB3.out.trans ((below_regrown _ dq osq).mono HB3.out.size)⟩
theorem unlike_1 (o a b c i a' b' c' i' : Int) (V V' : Int) (X X' : List UInt8) (w : World) (ht : Hid (Tab w)) (hV : (V == V') = false) (hX : (X == X') = false) (hne : ¬ a = a')
    (h1 : ∀ w, Calls Tryd.prog 10 #[.agg #[.int .i64 o, .int .i64 a, .int .i64 b, .int .i64 c, .int .i64 i]] w fun e w' => e = .returned (.tuple #[.int .i64 V, .int .i64 0]) ∧ Below w.heap.size w w')
    (h2 : ∀ w, Calls Tryd.prog 10 #[.agg #[.int .i64 o, .int .i64 a', .int .i64 b', .int .i64 c', .int .i64 i']] w fun e w' => e = .returned (.tuple #[.int .i64 V', .int .i64 0]) ∧ Below w.heap.size w w')
    (x1 : ∀ w, Tab w → Calls Tryd.prog 14 #[.agg #[.int .i64 o, .int .i64 a, .int .i64 b, .int .i64 c, .int .i64 i]] w fun e w' => e = .returned (.string ⟨X.toArray⟩) ∧ Below w.heap.size w w')
    (x2 : ∀ w, Tab w → Calls Tryd.prog 14 #[.agg #[.int .i64 o, .int .i64 a', .int .i64 b', .int .i64 c', .int .i64 i']] w fun e w' => e = .returned (.string ⟨X'.toArray⟩) ∧ Below w.heap.size w w') :
    Calls Tryd.prog 5 #[.agg #[.int .i64 o, .int .i64 a, .int .i64 b, .int .i64 c, .int .i64 i], .agg #[.int .i64 o, .int .i64 a', .int .i64 b', .int .i64 c', .int .i64 i']] w fun e w' => e = .returned (.bool true) ∧ Below w.heap.size w w' := by
  go_enter Tryd.func5, Tryd.ntmps5
  go_wp2_with (first | (go_at_call 10; refine (h1 _).mono ?_; rintro e w2 ⟨rfl, hb⟩; refine Hid.out ?_))
  refine Lib.hid ?_
  obtain ⟨hk, hk1, hb2⟩ := alloc_known2 hb
  have c0 : w2.cell? ⟨w.heap.size, 0, none⟩ = some (.int .i64 o) := by simp [World.cell?, hk]
  have d0 : w2.cell? ⟨w.heap.size + 1, 0, none⟩ = some (.int .i64 o) := by simp [World.cell?, hk1]
  have c1 : w2.cell? ⟨w.heap.size, 1, none⟩ = some (.int .i64 a) := by simp [World.cell?, hk]
  have d1 : w2.cell? ⟨w.heap.size + 1, 1, none⟩ = some (.int .i64 a') := by simp [World.cell?, hk1]
  have c2 : w2.cell? ⟨w.heap.size, 2, none⟩ = some (.int .i64 b) := by simp [World.cell?, hk]
  have d2 : w2.cell? ⟨w.heap.size + 1, 2, none⟩ = some (.int .i64 b') := by simp [World.cell?, hk1]
  have c3 : w2.cell? ⟨w.heap.size, 3, none⟩ = some (.int .i64 c) := by simp [World.cell?, hk]
  have d3 : w2.cell? ⟨w.heap.size + 1, 3, none⟩ = some (.int .i64 c') := by simp [World.cell?, hk1]
  have c4 : w2.cell? ⟨w.heap.size, 4, none⟩ = some (.int .i64 i) := by simp [World.cell?, hk]
  have d4 : w2.cell? ⟨w.heap.size + 1, 4, none⟩ = some (.int .i64 i') := by simp [World.cell?, hk1]
  have HK := Lib.hid hk
  have HK1 := Lib.hid hk1
  have hlt : w.heap.size < w2.heap.size := (Array.getElem?_eq_some_iff.1 hk).1
  have hlt1 : w.heap.size + 1 < w2.heap.size := (Array.getElem?_eq_some_iff.1 hk1).1
  have HB := Lib.hid hb2
  clear hb hk hk1 hb2
  go_wp2_with (first | (go_at_call 10; refine (h2 _).mono ?_; rintro e w3 ⟨rfl, hb3⟩; refine Hid.out ?_))
  refine Lib.hid ?_
  have HB3 := Lib.hid (HB.out.trans (hb3.mono HB.out.size))
  have hk := (hb3.block _ hlt).trans HK.out
  have hk1 := (hb3.block _ hlt1).trans HK1.out
  have k0 := cell_regrown (show w3.cell? ⟨w.heap.size, 0, none⟩ = some (.int .i64 o) by simp [World.cell?, hk])
  have l0 := cell_regrown (show w3.cell? ⟨w.heap.size + 1, 0, none⟩ = some (.int .i64 o) by simp [World.cell?, hk1])
  have k1 := cell_regrown (show w3.cell? ⟨w.heap.size, 1, none⟩ = some (.int .i64 a) by simp [World.cell?, hk])
  have l1 := cell_regrown (show w3.cell? ⟨w.heap.size + 1, 1, none⟩ = some (.int .i64 a') by simp [World.cell?, hk1])
  have k2 := cell_regrown (show w3.cell? ⟨w.heap.size, 2, none⟩ = some (.int .i64 b) by simp [World.cell?, hk])
  have l2 := cell_regrown (show w3.cell? ⟨w.heap.size + 1, 2, none⟩ = some (.int .i64 b') by simp [World.cell?, hk1])
  have k3 := cell_regrown (show w3.cell? ⟨w.heap.size, 3, none⟩ = some (.int .i64 c) by simp [World.cell?, hk])
  have l3 := cell_regrown (show w3.cell? ⟨w.heap.size + 1, 3, none⟩ = some (.int .i64 c') by simp [World.cell?, hk1])
  have k4 := cell_regrown (show w3.cell? ⟨w.heap.size, 4, none⟩ = some (.int .i64 i) by simp [World.cell?, hk])
  have l4 := cell_regrown (show w3.cell? ⟨w.heap.size + 1, 4, none⟩ = some (.int .i64 i') by simp [World.cell?, hk1])
  have HT3 := Lib.hid (tab_of ht HB3.out)
  have cX := fun d os => Calls.regrown_of (x1 _ (tab_of HT3 (below_regrown w3 d os)))
  have cY := fun d os => Calls.regrown_of (x2 _ (tab_of HT3 (below_regrown w3 d os)))
  have cZ := fun d os => Calls.regrown_of (awake_any _ (Lib.hid (tab_of HT3 (below_regrown w3 d os))))
  clear hb3 hk hk1 x1 x2 h1 h2 c0 c1 c2 c3 c4 d0 d1 d2 d3 d4
  go_wp2_with (first | (go_at_call 12; refine (num_any _ _).mono ?_; rintro e w6 ⟨rfl, rfl⟩) | (refine wp_region_quiet_below (by kernel_rfl) (by kernel_rfl) ?_; quiet_step (fail); quiet_step (fail); quiet_step (fail); quiet_step (fail); quiet_step (fail); quiet_step (fail); quiet_step (fail); quiet_step (fail); quiet_step (fail); quiet_step (exact cX _ _); quiet_step (fail); quiet_step (exact cY _ _); quiet_step (fail); quiet_step (fail); quiet_step (fail); quiet_step (fail); quiet_step (fail); quiet_step (fail); quiet_step (fail); quiet_step (exact cZ _ _); quiet_step (fail); quiet_step (fail); refine wpQuiet_nil ?_; intro _ hw'; obtain ⟨⟨dq, osq⟩, hw''⟩ := hw'; subst hw''))
  go_wp2
  go_ret
  exact ⟨rfl, HB3.out.trans ((below_regrown _ dq osq).mono HB3.out.size)⟩
theorem unlike_2 (o a b c i b' c' i' : Int) (V V' : Int) (X X' : List UInt8) (w : World) (ht : Hid (Tab w)) (hV : (V == V') = false) (hX : (X == X') = false) (hne : ¬ b = b')
    (h1 : ∀ w, Calls Tryd.prog 10 #[.agg #[.int .i64 o, .int .i64 a, .int .i64 b, .int .i64 c, .int .i64 i]] w fun e w' => e = .returned (.tuple #[.int .i64 V, .int .i64 0]) ∧ Below w.heap.size w w')
    (h2 : ∀ w, Calls Tryd.prog 10 #[.agg #[.int .i64 o, .int .i64 a, .int .i64 b', .int .i64 c', .int .i64 i']] w fun e w' => e = .returned (.tuple #[.int .i64 V', .int .i64 0]) ∧ Below w.heap.size w w')
    (x1 : ∀ w, Tab w → Calls Tryd.prog 14 #[.agg #[.int .i64 o, .int .i64 a, .int .i64 b, .int .i64 c, .int .i64 i]] w fun e w' => e = .returned (.string ⟨X.toArray⟩) ∧ Below w.heap.size w w')
    (x2 : ∀ w, Tab w → Calls Tryd.prog 14 #[.agg #[.int .i64 o, .int .i64 a, .int .i64 b', .int .i64 c', .int .i64 i']] w fun e w' => e = .returned (.string ⟨X'.toArray⟩) ∧ Below w.heap.size w w') :
    Calls Tryd.prog 5 #[.agg #[.int .i64 o, .int .i64 a, .int .i64 b, .int .i64 c, .int .i64 i], .agg #[.int .i64 o, .int .i64 a, .int .i64 b', .int .i64 c', .int .i64 i']] w fun e w' => e = .returned (.bool true) ∧ Below w.heap.size w w' := by
  go_enter Tryd.func5, Tryd.ntmps5
  go_wp2_with (first | (go_at_call 10; refine (h1 _).mono ?_; rintro e w2 ⟨rfl, hb⟩; refine Hid.out ?_))
  refine Lib.hid ?_
  obtain ⟨hk, hk1, hb2⟩ := alloc_known2 hb
  have c0 : w2.cell? ⟨w.heap.size, 0, none⟩ = some (.int .i64 o) := by simp [World.cell?, hk]
  have d0 : w2.cell? ⟨w.heap.size + 1, 0, none⟩ = some (.int .i64 o) := by simp [World.cell?, hk1]
  have c1 : w2.cell? ⟨w.heap.size, 1, none⟩ = some (.int .i64 a) := by simp [World.cell?, hk]
  have d1 : w2.cell? ⟨w.heap.size + 1, 1, none⟩ = some (.int .i64 a) := by simp [World.cell?, hk1]
  have c2 : w2.cell? ⟨w.heap.size, 2, none⟩ = some (.int .i64 b) := by simp [World.cell?, hk]
  have d2 : w2.cell? ⟨w.heap.size + 1, 2, none⟩ = some (.int .i64 b') := by simp [World.cell?, hk1]
  have c3 : w2.cell? ⟨w.heap.size, 3, none⟩ = some (.int .i64 c) := by simp [World.cell?, hk]
  have d3 : w2.cell? ⟨w.heap.size + 1, 3, none⟩ = some (.int .i64 c') := by simp [World.cell?, hk1]
  have c4 : w2.cell? ⟨w.heap.size, 4, none⟩ = some (.int .i64 i) := by simp [World.cell?, hk]
  have d4 : w2.cell? ⟨w.heap.size + 1, 4, none⟩ = some (.int .i64 i') := by simp [World.cell?, hk1]
  have HK := Lib.hid hk
  have HK1 := Lib.hid hk1
  have hlt : w.heap.size < w2.heap.size := (Array.getElem?_eq_some_iff.1 hk).1
  have hlt1 : w.heap.size + 1 < w2.heap.size := (Array.getElem?_eq_some_iff.1 hk1).1
  have HB := Lib.hid hb2
  clear hb hk hk1 hb2
  go_wp2_with (first | (go_at_call 10; refine (h2 _).mono ?_; rintro e w3 ⟨rfl, hb3⟩; refine Hid.out ?_))
  refine Lib.hid ?_
  have HB3 := Lib.hid (HB.out.trans (hb3.mono HB.out.size))
  have hk := (hb3.block _ hlt).trans HK.out
  have hk1 := (hb3.block _ hlt1).trans HK1.out
  have k0 := cell_regrown (show w3.cell? ⟨w.heap.size, 0, none⟩ = some (.int .i64 o) by simp [World.cell?, hk])
  have l0 := cell_regrown (show w3.cell? ⟨w.heap.size + 1, 0, none⟩ = some (.int .i64 o) by simp [World.cell?, hk1])
  have k1 := cell_regrown (show w3.cell? ⟨w.heap.size, 1, none⟩ = some (.int .i64 a) by simp [World.cell?, hk])
  have l1 := cell_regrown (show w3.cell? ⟨w.heap.size + 1, 1, none⟩ = some (.int .i64 a) by simp [World.cell?, hk1])
  have k2 := cell_regrown (show w3.cell? ⟨w.heap.size, 2, none⟩ = some (.int .i64 b) by simp [World.cell?, hk])
  have l2 := cell_regrown (show w3.cell? ⟨w.heap.size + 1, 2, none⟩ = some (.int .i64 b') by simp [World.cell?, hk1])
  have k3 := cell_regrown (show w3.cell? ⟨w.heap.size, 3, none⟩ = some (.int .i64 c) by simp [World.cell?, hk])
  have l3 := cell_regrown (show w3.cell? ⟨w.heap.size + 1, 3, none⟩ = some (.int .i64 c') by simp [World.cell?, hk1])
  have k4 := cell_regrown (show w3.cell? ⟨w.heap.size, 4, none⟩ = some (.int .i64 i) by simp [World.cell?, hk])
  have l4 := cell_regrown (show w3.cell? ⟨w.heap.size + 1, 4, none⟩ = some (.int .i64 i') by simp [World.cell?, hk1])
  have HT3 := Lib.hid (tab_of ht HB3.out)
  have cX := fun d os => Calls.regrown_of (x1 _ (tab_of HT3 (below_regrown w3 d os)))
  have cY := fun d os => Calls.regrown_of (x2 _ (tab_of HT3 (below_regrown w3 d os)))
  have cZ := fun d os => Calls.regrown_of (awake_any _ (Lib.hid (tab_of HT3 (below_regrown w3 d os))))
  clear hb3 hk hk1 x1 x2 h1 h2 c0 c1 c2 c3 c4 d0 d1 d2 d3 d4
  go_wp2_with (first | (go_at_call 12; refine (num_any _ _).mono ?_; rintro e w6 ⟨rfl, rfl⟩) | (refine wp_region_quiet_below (by kernel_rfl) (by kernel_rfl) ?_; quiet_step (fail); quiet_step (fail); quiet_step (fail); quiet_step (fail); quiet_step (fail); quiet_step (fail); quiet_step (fail); quiet_step (fail); quiet_step (fail); quiet_step (exact cX _ _); quiet_step (fail); quiet_step (exact cY _ _); quiet_step (fail); quiet_step (fail); quiet_step (fail); quiet_step (fail); quiet_step (fail); quiet_step (fail); quiet_step (fail); quiet_step (exact cZ _ _); quiet_step (fail); quiet_step (fail); refine wpQuiet_nil ?_; intro _ hw'; obtain ⟨⟨dq, osq⟩, hw''⟩ := hw'; subst hw''))
  go_wp2
  go_ret
  exact ⟨rfl, HB3.out.trans ((below_regrown _ dq osq).mono HB3.out.size)⟩
theorem unlike_3 (o a b c i c' i' : Int) (V V' : Int) (X X' : List UInt8) (w : World) (ht : Hid (Tab w)) (hV : (V == V') = false) (hX : (X == X') = false) (hne : ¬ c = c')
    (h1 : ∀ w, Calls Tryd.prog 10 #[.agg #[.int .i64 o, .int .i64 a, .int .i64 b, .int .i64 c, .int .i64 i]] w fun e w' => e = .returned (.tuple #[.int .i64 V, .int .i64 0]) ∧ Below w.heap.size w w')
    (h2 : ∀ w, Calls Tryd.prog 10 #[.agg #[.int .i64 o, .int .i64 a, .int .i64 b, .int .i64 c', .int .i64 i']] w fun e w' => e = .returned (.tuple #[.int .i64 V', .int .i64 0]) ∧ Below w.heap.size w w')
    (x1 : ∀ w, Tab w → Calls Tryd.prog 14 #[.agg #[.int .i64 o, .int .i64 a, .int .i64 b, .int .i64 c, .int .i64 i]] w fun e w' => e = .returned (.string ⟨X.toArray⟩) ∧ Below w.heap.size w w')
    (x2 : ∀ w, Tab w → Calls Tryd.prog 14 #[.agg #[.int .i64 o, .int .i64 a, .int .i64 b, .int .i64 c', .int .i64 i']] w fun e w' => e = .returned (.string ⟨X'.toArray⟩) ∧ Below w.heap.size w w') :
    Calls Tryd.prog 5 #[.agg #[.int .i64 o, .int .i64 a, .int .i64 b, .int .i64 c, .int .i64 i], .agg #[.int .i64 o, .int .i64 a, .int .i64 b, .int .i64 c', .int .i64 i']] w fun e w' => e = .returned (.bool true) ∧ Below w.heap.size w w' := by
  go_enter Tryd.func5, Tryd.ntmps5
  go_wp2_with (first | (go_at_call 10; refine (h1 _).mono ?_; rintro e w2 ⟨rfl, hb⟩; refine Hid.out ?_))
  refine Lib.hid ?_
  obtain ⟨hk, hk1, hb2⟩ := alloc_known2 hb
  have c0 : w2.cell? ⟨w.heap.size, 0, none⟩ = some (.int .i64 o) := by simp [World.cell?, hk]
  have d0 : w2.cell? ⟨w.heap.size + 1, 0, none⟩ = some (.int .i64 o) := by simp [World.cell?, hk1]
  have c1 : w2.cell? ⟨w.heap.size, 1, none⟩ = some (.int .i64 a) := by simp [World.cell?, hk]
  have d1 : w2.cell? ⟨w.heap.size + 1, 1, none⟩ = some (.int .i64 a) := by simp [World.cell?, hk1]
  have c2 : w2.cell? ⟨w.heap.size, 2, none⟩ = some (.int .i64 b) := by simp [World.cell?, hk]
  have d2 : w2.cell? ⟨w.heap.size + 1, 2, none⟩ = some (.int .i64 b) := by simp [World.cell?, hk1]
  have c3 : w2.cell? ⟨w.heap.size, 3, none⟩ = some (.int .i64 c) := by simp [World.cell?, hk]
  have d3 : w2.cell? ⟨w.heap.size + 1, 3, none⟩ = some (.int .i64 c') := by simp [World.cell?, hk1]
  have c4 : w2.cell? ⟨w.heap.size, 4, none⟩ = some (.int .i64 i) := by simp [World.cell?, hk]
  have d4 : w2.cell? ⟨w.heap.size + 1, 4, none⟩ = some (.int .i64 i') := by simp [World.cell?, hk1]
  have HK := Lib.hid hk
  have HK1 := Lib.hid hk1
  have hlt : w.heap.size < w2.heap.size := (Array.getElem?_eq_some_iff.1 hk).1
  have hlt1 : w.heap.size + 1 < w2.heap.size := (Array.getElem?_eq_some_iff.1 hk1).1
  have HB := Lib.hid hb2
  clear hb hk hk1 hb2
  go_wp2_with (first | (go_at_call 10; refine (h2 _).mono ?_; rintro e w3 ⟨rfl, hb3⟩; refine Hid.out ?_))
  refine Lib.hid ?_
  have HB3 := Lib.hid (HB.out.trans (hb3.mono HB.out.size))
  have hk := (hb3.block _ hlt).trans HK.out
  have hk1 := (hb3.block _ hlt1).trans HK1.out
  have k0 := cell_regrown (show w3.cell? ⟨w.heap.size, 0, none⟩ = some (.int .i64 o) by simp [World.cell?, hk])
  have l0 := cell_regrown (show w3.cell? ⟨w.heap.size + 1, 0, none⟩ = some (.int .i64 o) by simp [World.cell?, hk1])
  have k1 := cell_regrown (show w3.cell? ⟨w.heap.size, 1, none⟩ = some (.int .i64 a) by simp [World.cell?, hk])
  have l1 := cell_regrown (show w3.cell? ⟨w.heap.size + 1, 1, none⟩ = some (.int .i64 a) by simp [World.cell?, hk1])
  have k2 := cell_regrown (show w3.cell? ⟨w.heap.size, 2, none⟩ = some (.int .i64 b) by simp [World.cell?, hk])
  have l2 := cell_regrown (show w3.cell? ⟨w.heap.size + 1, 2, none⟩ = some (.int .i64 b) by simp [World.cell?, hk1])
  have k3 := cell_regrown (show w3.cell? ⟨w.heap.size, 3, none⟩ = some (.int .i64 c) by simp [World.cell?, hk])
  have l3 := cell_regrown (show w3.cell? ⟨w.heap.size + 1, 3, none⟩ = some (.int .i64 c') by simp [World.cell?, hk1])
  have k4 := cell_regrown (show w3.cell? ⟨w.heap.size, 4, none⟩ = some (.int .i64 i) by simp [World.cell?, hk])
  have l4 := cell_regrown (show w3.cell? ⟨w.heap.size + 1, 4, none⟩ = some (.int .i64 i') by simp [World.cell?, hk1])
  have HT3 := Lib.hid (tab_of ht HB3.out)
  have cX := fun d os => Calls.regrown_of (x1 _ (tab_of HT3 (below_regrown w3 d os)))
  have cY := fun d os => Calls.regrown_of (x2 _ (tab_of HT3 (below_regrown w3 d os)))
  have cZ := fun d os => Calls.regrown_of (awake_any _ (Lib.hid (tab_of HT3 (below_regrown w3 d os))))
  clear hb3 hk hk1 x1 x2 h1 h2 c0 c1 c2 c3 c4 d0 d1 d2 d3 d4
  go_wp2_with (first | (go_at_call 12; refine (num_any _ _).mono ?_; rintro e w6 ⟨rfl, rfl⟩) | (refine wp_region_quiet_below (by kernel_rfl) (by kernel_rfl) ?_; quiet_step (fail); quiet_step (fail); quiet_step (fail); quiet_step (fail); quiet_step (fail); quiet_step (fail); quiet_step (fail); quiet_step (fail); quiet_step (fail); quiet_step (exact cX _ _); quiet_step (fail); quiet_step (exact cY _ _); quiet_step (fail); quiet_step (fail); quiet_step (fail); quiet_step (fail); quiet_step (fail); quiet_step (fail); quiet_step (fail); quiet_step (exact cZ _ _); quiet_step (fail); quiet_step (fail); refine wpQuiet_nil ?_; intro _ hw'; obtain ⟨⟨dq, osq⟩, hw''⟩ := hw'; subst hw''))
  go_wp2
  go_ret
  exact ⟨rfl, HB3.out.trans ((below_regrown _ dq osq).mono HB3.out.size)⟩
theorem unlike_4 (o a b c i i' : Int) (V V' : Int) (X X' : List UInt8) (w : World) (ht : Hid (Tab w)) (hV : (V == V') = false) (hX : (X == X') = false) (hne : ¬ i = i')
    (h1 : ∀ w, Calls Tryd.prog 10 #[.agg #[.int .i64 o, .int .i64 a, .int .i64 b, .int .i64 c, .int .i64 i]] w fun e w' => e = .returned (.tuple #[.int .i64 V, .int .i64 0]) ∧ Below w.heap.size w w')
    (h2 : ∀ w, Calls Tryd.prog 10 #[.agg #[.int .i64 o, .int .i64 a, .int .i64 b, .int .i64 c, .int .i64 i']] w fun e w' => e = .returned (.tuple #[.int .i64 V', .int .i64 0]) ∧ Below w.heap.size w w')
    (x1 : ∀ w, Tab w → Calls Tryd.prog 14 #[.agg #[.int .i64 o, .int .i64 a, .int .i64 b, .int .i64 c, .int .i64 i]] w fun e w' => e = .returned (.string ⟨X.toArray⟩) ∧ Below w.heap.size w w')
    (x2 : ∀ w, Tab w → Calls Tryd.prog 14 #[.agg #[.int .i64 o, .int .i64 a, .int .i64 b, .int .i64 c, .int .i64 i']] w fun e w' => e = .returned (.string ⟨X'.toArray⟩) ∧ Below w.heap.size w w') :
    Calls Tryd.prog 5 #[.agg #[.int .i64 o, .int .i64 a, .int .i64 b, .int .i64 c, .int .i64 i], .agg #[.int .i64 o, .int .i64 a, .int .i64 b, .int .i64 c, .int .i64 i']] w fun e w' => e = .returned (.bool true) ∧ Below w.heap.size w w' := by
  go_enter Tryd.func5, Tryd.ntmps5
  go_wp2_with (first | (go_at_call 10; refine (h1 _).mono ?_; rintro e w2 ⟨rfl, hb⟩; refine Hid.out ?_))
  refine Lib.hid ?_
  obtain ⟨hk, hk1, hb2⟩ := alloc_known2 hb
  have c0 : w2.cell? ⟨w.heap.size, 0, none⟩ = some (.int .i64 o) := by simp [World.cell?, hk]
  have d0 : w2.cell? ⟨w.heap.size + 1, 0, none⟩ = some (.int .i64 o) := by simp [World.cell?, hk1]
  have c1 : w2.cell? ⟨w.heap.size, 1, none⟩ = some (.int .i64 a) := by simp [World.cell?, hk]
  have d1 : w2.cell? ⟨w.heap.size + 1, 1, none⟩ = some (.int .i64 a) := by simp [World.cell?, hk1]
  have c2 : w2.cell? ⟨w.heap.size, 2, none⟩ = some (.int .i64 b) := by simp [World.cell?, hk]
  have d2 : w2.cell? ⟨w.heap.size + 1, 2, none⟩ = some (.int .i64 b) := by simp [World.cell?, hk1]
  have c3 : w2.cell? ⟨w.heap.size, 3, none⟩ = some (.int .i64 c) := by simp [World.cell?, hk]
  have d3 : w2.cell? ⟨w.heap.size + 1, 3, none⟩ = some (.int .i64 c) := by simp [World.cell?, hk1]
  have c4 : w2.cell? ⟨w.heap.size, 4, none⟩ = some (.int .i64 i) := by simp [World.cell?, hk]
  have d4 : w2.cell? ⟨w.heap.size + 1, 4, none⟩ = some (.int .i64 i') := by simp [World.cell?, hk1]
  have HK := Lib.hid hk
  have HK1 := Lib.hid hk1
  have hlt : w.heap.size < w2.heap.size := (Array.getElem?_eq_some_iff.1 hk).1
  have hlt1 : w.heap.size + 1 < w2.heap.size := (Array.getElem?_eq_some_iff.1 hk1).1
  have HB := Lib.hid hb2
  clear hb hk hk1 hb2
  go_wp2_with (first | (go_at_call 10; refine (h2 _).mono ?_; rintro e w3 ⟨rfl, hb3⟩; refine Hid.out ?_))
  refine Lib.hid ?_
  have HB3 := Lib.hid (HB.out.trans (hb3.mono HB.out.size))
  have hk := (hb3.block _ hlt).trans HK.out
  have hk1 := (hb3.block _ hlt1).trans HK1.out
  have k0 := cell_regrown (show w3.cell? ⟨w.heap.size, 0, none⟩ = some (.int .i64 o) by simp [World.cell?, hk])
  have l0 := cell_regrown (show w3.cell? ⟨w.heap.size + 1, 0, none⟩ = some (.int .i64 o) by simp [World.cell?, hk1])
  have k1 := cell_regrown (show w3.cell? ⟨w.heap.size, 1, none⟩ = some (.int .i64 a) by simp [World.cell?, hk])
  have l1 := cell_regrown (show w3.cell? ⟨w.heap.size + 1, 1, none⟩ = some (.int .i64 a) by simp [World.cell?, hk1])
  have k2 := cell_regrown (show w3.cell? ⟨w.heap.size, 2, none⟩ = some (.int .i64 b) by simp [World.cell?, hk])
  have l2 := cell_regrown (show w3.cell? ⟨w.heap.size + 1, 2, none⟩ = some (.int .i64 b) by simp [World.cell?, hk1])
  have k3 := cell_regrown (show w3.cell? ⟨w.heap.size, 3, none⟩ = some (.int .i64 c) by simp [World.cell?, hk])
  have l3 := cell_regrown (show w3.cell? ⟨w.heap.size + 1, 3, none⟩ = some (.int .i64 c) by simp [World.cell?, hk1])
  have k4 := cell_regrown (show w3.cell? ⟨w.heap.size, 4, none⟩ = some (.int .i64 i) by simp [World.cell?, hk])
  have l4 := cell_regrown (show w3.cell? ⟨w.heap.size + 1, 4, none⟩ = some (.int .i64 i') by simp [World.cell?, hk1])
  have HT3 := Lib.hid (tab_of ht HB3.out)
  have cX := fun d os => Calls.regrown_of (x1 _ (tab_of HT3 (below_regrown w3 d os)))
  have cY := fun d os => Calls.regrown_of (x2 _ (tab_of HT3 (below_regrown w3 d os)))
  have cZ := fun d os => Calls.regrown_of (awake_any _ (Lib.hid (tab_of HT3 (below_regrown w3 d os))))
  clear hb3 hk hk1 x1 x2 h1 h2 c0 c1 c2 c3 c4 d0 d1 d2 d3 d4
  go_wp2_with (first | (go_at_call 12; refine (num_any _ _).mono ?_; rintro e w6 ⟨rfl, rfl⟩) | (refine wp_region_quiet_below (by kernel_rfl) (by kernel_rfl) ?_; quiet_step (fail); quiet_step (fail); quiet_step (fail); quiet_step (fail); quiet_step (fail); quiet_step (fail); quiet_step (fail); quiet_step (fail); quiet_step (fail); quiet_step (exact cX _ _); quiet_step (fail); quiet_step (exact cY _ _); quiet_step (fail); quiet_step (fail); quiet_step (fail); quiet_step (fail); quiet_step (fail); quiet_step (fail); quiet_step (fail); quiet_step (exact cZ _ _); quiet_step (fail); quiet_step (fail); refine wpQuiet_nil ?_; intro _ hw'; obtain ⟨⟨dq, osq⟩, hw''⟩ := hw'; subst hw''))
  go_wp2
  go_ret
  exact ⟨rfl, HB3.out.trans ((below_regrown _ dq osq).mono HB3.out.size)⟩
theorem IsaUnlike_any (o a b c i o' a' b' c' i' : Int) (w : World) (ht : Hid (Tab w)) : Calls Tryd.prog 5 #[.agg #[.int .i64 o, .int .i64 a, .int .i64 b, .int .i64 c, .int .i64 i], .agg #[.int .i64 o', .int .i64 a', .int .i64 b', .int .i64 c', .int .i64 i']] w fun e w' => e = .returned (.bool true) ∧ Below w.heap.size w w' := by
  have x1 := fun w => text_any o a b c i w
  have x2 := fun w => text_any o' a' b' c' i' w
  cases hB : encB (rg o) (im o) (ok o) a b c i
  · have h2 := fun w => enc_any o' a' b' c' i' w
    exact unlike_bad1 o a b c i o' a' b' c' i' 0 _ _ w ht (fun w => enc_no o a b c i w hB) h2
  cases hB' : encB (rg o') (im o') (ok o') a' b' c' i'
  · exact unlike_bad2 o a b c i o' a' b' c' i' _ 0 w ht (fun w => enc_yes o a b c i w hB) (fun w => enc_no o' a' b' c' i' w hB')
  have h1 := fun w => enc_yes o a b c i w hB
  have h2 := fun w => enc_yes o' a' b' c' i' w hB'
  have n1 : ¬ (o = o' ∧ a = a' ∧ b = b' ∧ c = c' ∧ i = i') → (encW o a b c i == encW o' a' b' c' i') = false := fun h => by
    rw [beq_eq_false_iff_ne]; exact fun e => h (enc_inj _ _ _ _ _ _ _ _ _ _ hB hB' e)
  have n2 : ¬ (o = o' ∧ a = a' ∧ b = b' ∧ c = c' ∧ i = i') → (txt o a b c i == txt o' a' b' c' i') = false := fun h => by
    rw [beq_eq_false_iff_ne]; exact fun e => h (txt_inj _ _ _ _ _ _ _ _ _ _ hB hB' e)
  by_cases e0 : o = o'
  case neg => exact unlike_0 o a b c i o' a' b' c' i' _ _ _ _ w ht (n1 (fun h => e0 h.1)) (n2 (fun h => e0 h.1)) e0 h1 h2 x1 x2
  subst e0
  by_cases e1 : a = a'
  case neg => exact unlike_1 o a b c i a' b' c' i' _ _ _ _ w ht (n1 (fun h => e1 h.2.1)) (n2 (fun h => e1 h.2.1)) e1 h1 h2 x1 x2
  subst e1
  by_cases e2 : b = b'
  case neg => exact unlike_2 o a b c i b' c' i' _ _ _ _ w ht (n1 (fun h => e2 h.2.2.1)) (n2 (fun h => e2 h.2.2.1)) e2 h1 h2 x1 x2
  subst e2
  by_cases e3 : c = c'
  case neg => exact unlike_3 o a b c i c' i' _ _ _ _ w ht (n1 (fun h => e3 h.2.2.2.1)) (n2 (fun h => e3 h.2.2.2.1)) e3 h1 h2 x1 x2
  subst e3
  by_cases e4 : i = i'
  case neg => exact unlike_4 o a b c i i' _ _ _ _ w ht (n1 (fun h => e4 h.2.2.2.2)) (n2 (fun h => e4 h.2.2.2.2)) e4 h1 h2 x1 x2
  subst e4
  exact unlike_same o a b c i _ _ w ht h1 h2 x1 x2
end Go.Proofs.YtpgooplokmemnaaDoor
