/- The walks of bad and Order. -/
import Derived.Test.YtihnmhemhcmmoaaA8
namespace Go.Proofs.Ytihnmhemhcmmoaa
open Go Go.RowKit Go.Maps Go.WideMaps Go.Sort
set_option maxHeartbeats 2000000
set_option maxRecDepth 100000

def badP (spare : Int) : List Mv → (Int → Option Int) → Bool
  | [], _ => decide (spare < 0)
  | m :: l, f => if m.tc < 0 ∨ m.frm < 0 ∨ 1 < wrap1 ((f m.tc).getD 0 + 1) ∨ m.tc = spare ∨ m.frm = spare then true else badP spare l (updI f m.tc (some (wrap1 ((f m.tc).getD 0 + 1))))
theorem bad14 (w0 : World) (v : Value) (ms : List Mv) (spare : Int) (hrow : MvRow w0 v ms) (hm : ms.length ≤ 1000000) :
    Calls Try.prog 14 #[v, .int .i64 spare] w0 fun e w' => e = .returned (.bool (badP spare ms (fun _ => none))) ∧ Below w0.heap.size w0 w' := by
  obtain ⟨⟨a, c, rfl, hc, hcm, hcells⟩, h64⟩ := hrow
  have hmm := @run_makeMap Try.prog
  have HC := Lib.hid hcells
  have H64 := Lib.hid h64
  obtain ⟨B, hB⟩ : ∃ B, badP spare ms (fun _ => none) = B := ⟨_, rfl⟩
  have HBB := Lib.hid hB
  rw [hB]
  clear hcells h64 hB
  go_enter Try.func14, Try.ntmps14
  go_wp2_with fail
  go_loopw [11] (fun iv wr => ∃ (j : Nat) (f : Int → Option Int), j ≤ ms.length ∧ iv = .int .i64 j ∧ Hid (Below w0.heap.size w0 wr ∧ IM wr w0.heap.size j (fun c => (f c).map (Value.int .i64)) ∧ badP spare (ms.drop j) f = B)) (fun iv _ => ms.length - (intOf iv).toNat)
  case atStart => exact ⟨0, fun _ => none, by omega, rfl, Lib.hid ⟨(Below.refl _ _).alloc (Nat.le_refl _) _, IM.made w0, HBB.out⟩⟩
  case round =>
    obtain ⟨j, fm, hj, rfl, HR⟩ := hrel
    by_cases hjl : j < ms.length
    · obtain ⟨hbel, him, hbad⟩ := HR.out
      have hd : ms.drop j = ms[j] :: ms.drop (j + 1) := List.drop_eq_getElem_cons hjl
      obtain ⟨m, hmj⟩ : ∃ m, ms[j] = m := ⟨_, rfl⟩
      have hm6 := H64.out m (by rw [← hmj]; exact List.getElem_mem _)
      rw [hd, hmj, badP] at hbad
      rcases HC.out with h0 | ⟨bm, om, rfl, hcell⟩
      · rw [h0] at hjl; simp at hjl
      obtain ⟨g0, g1⟩ := hcell j m (by rw [List.getElem?_eq_getElem hjl, hmj])
      have f0 := hbel.cell (World.block_lt_of_cell? w0 _ g0) |>.trans g0
      have f1 := hbel.cell (World.block_lt_of_cell? w0 _ g1) |>.trans g1
      obtain ⟨t, ht⟩ : ∃ t, m.tc = t := ⟨_, rfl⟩
      obtain ⟨f, hf⟩ : ∃ f, m.frm = f := ⟨_, rfl⟩
      rw [ht] at f0 hbad hm6
      rw [hf] at f1 hbad hm6
      have hj0 : (0 : Int) ≤ (j : Int) := by omega
      have hj1 : (j : Int) < (ms.length : Int) := by omega
      have hbel1 : Below wr.heap.size wr (wr.alloc (.cells #[.int .i64 t, .int .i64 f] 31)) := (Below.refl _ _).alloc (Nat.le_refl _) _
      have him1 := im_any him hbel1
      have l1 := him1.look Try.underlying40 (zero3 _) t hm6.1
      obtain ⟨rf, hrf⟩ : ∃ rf, (fm t).getD 0 = rf := ⟨_, rfl⟩
      have hl9 : (((fm t).map (Value.int .i64)).getD (.int .i64 0)) = .int .i64 rf := by rw [← hrf]; cases fm t <;> rfl
      rw [hl9] at l1
      obtain ⟨rg, hrg⟩ : ∃ rg, IntKind.i64.wrap (rf + 1) = rg := ⟨_, rfl⟩
      have hrg' : wrap1 ((fm t).getD 0 + 1) = rg := by rw [hrf]; exact hrg
      obtain ⟨w2, u2, him2, hg2⟩ := him1.put Try.underlying40 (by unfold maxLen; omega) t hm6.1 (.int .i64 rg)
      have l2 := him2.look Try.underlying40 (zero3 _) t hm6.1
      have hl2 : ((updI (fun c => (fm c).map (Value.int .i64)) t (some (.int .i64 rg)) t).getD (.int .i64 0)) = .int .i64 rg := by simp [updI]
      rw [hl2] at l2
      obtain ⟨es, ck, hmb⟩ := him1.block
      have hq2 := blk_kept (heap_alloc_new wr (.cells #[.int .i64 t, .int .i64 f] 31)) hmb (fun _ e => by cases e) hg2
      have q0 : w2.cell? ⟨wr.heap.size, 0, none⟩ = some (.int .i64 t) := cell_of hq2 rfl
      have q1 : w2.cell? ⟨wr.heap.size, 1, none⟩ = some (.int .i64 f) := cell_of hq2 rfl
      have him2' : IM w2 w0.heap.size (j + 1) (fun c => ((updI fm t (some rg)) c).map (Value.int .i64)) := by
        have e : (fun c => ((updI fm t (some rg)) c).map (Value.int .i64)) = updI (fun c => (fm c).map (Value.int .i64)) t (some (.int .i64 rg)) := by
          funext x; unfold updI; split <;> rfl
        rw [e]; exact him2
      have hbel2 : Below w0.heap.size w0 w2 := (hbel.trans (hbel1.mono hbel.size)).grown hg2 (by have := hbel.size; simp; omega) (fun k hk => by obtain rfl := Option.some.inj hk; exact Nat.le_refl _)
      rw [hrg'] at hbad
      have HBAD := Lib.hid hbad
      have HIM2 := Lib.hid him2'
      have HBE2 := Lib.hid hbel2
      clear hbel him hbad hd hmj hcell g0 g1 ht hf him1 hl9 hrf hrg' him2 hl2 hmb hq2 him2' hbel2 hbel1 HR hm6 hg2
      by_cases c1 : t < 0
      · have HV : Hid (B = true) := Lib.hid (by have h := HBAD.out; rw [if_pos (.inl c1)] at h; exact h.symm)
        clear HBAD
        go_wp2_with fail
        go_ret
        obtain rfl := HV.out
        exact ⟨rfl, HBE2.out⟩
      by_cases c2 : f < 0
      · have HV : Hid (B = true) := Lib.hid (by have h := HBAD.out; rw [if_pos (.inr (.inl c2))] at h; exact h.symm)
        clear HBAD
        go_wp2_with fail
        go_ret
        obtain rfl := HV.out
        exact ⟨rfl, HBE2.out⟩
      by_cases c3 : 1 < rg
      · have HV : Hid (B = true) := Lib.hid (by have h := HBAD.out; rw [if_pos (.inr (.inr (.inl c3)))] at h; exact h.symm)
        clear HBAD
        go_wp2_with fail
        go_ret
        obtain rfl := HV.out
        exact ⟨rfl, HBE2.out⟩
      by_cases c4 : t = spare
      · have HV : Hid (B = true) := Lib.hid (by have h := HBAD.out; rw [if_pos (.inr (.inr (.inr (.inl c4))))] at h; exact h.symm)
        have c4' : (t == spare) = true := by simpa using c4
        clear HBAD c4
        go_wp2_with fail
        go_ret
        obtain rfl := HV.out
        exact ⟨rfl, HBE2.out⟩
      by_cases c5 : f = spare
      · have HV : Hid (B = true) := Lib.hid (by have h := HBAD.out; rw [if_pos (.inr (.inr (.inr (.inr c5))))] at h; exact h.symm)
        have c4' : (t == spare) = false := by simpa using c4
        have c5' : (f == spare) = true := by simpa using c5
        clear HBAD c4 c5
        go_wp2_with fail
        go_ret
        obtain rfl := HV.out
        exact ⟨rfl, HBE2.out⟩
      have HV : Hid (badP spare (ms.drop (j + 1)) (updI fm t (some rg)) = B) := Lib.hid (by have h := HBAD.out; rw [if_neg (by omega)] at h; exact h)
      have c4' : (t == spare) = false := by simpa using c4
      have c5' : (f == spare) = false := by simpa using c5
      clear HBAD c4 c5
      go_wp2_with fail
      exact ⟨⟨j + 1, _, by omega, by go_num, Lib.hid ⟨HBE2.out, HIM2.out, HV.out⟩⟩, by simp [intOf]; omega⟩
    · obtain rfl : j = ms.length := by omega
      obtain ⟨hbel, _, hbad⟩ := HR.out
      rw [List.drop_length, badP] at hbad
      have HB := Lib.hid hbel
      have HBAD := Lib.hid hbad
      clear hbel hbad HR
      go_wp2_with fail
      go_ret
      exact ⟨by rw [← HBAD.out]; rfl, HB.out⟩
/-- what Order answers -/
def OrdPost (w0 : World) (e : Ending) (w' : World) (r : Option (List Mv)) (no : Int) : Prop :=
  Below w0.heap.size w0 w' ∧ match r with
  | none => e = .returned (.tuple #[.slice none 0 0, .int .i64 no])
  | some l => ∃ u, e = .returned (.tuple #[u, .int .i64 0]) ∧ w'.ownsRow w0.heap.size 31 2 u l.length (flat l)
theorem MvRow.below {w w' : World} {v : Value} {l : List Mv} (h : MvRow w v l) (hb : Below w.heap.size w w') : MvRow w' v l := by
  obtain ⟨⟨a, c, h1, h2, h3, h4⟩, h5⟩ := h
  refine ⟨⟨a, c, h1, h2, h3, ?_⟩, h5⟩
  rcases h4 with h4 | ⟨b, o, h6, h7⟩
  · exact .inl h4
  · refine .inr ⟨b, o, h6, fun i m hm => ?_⟩
    obtain ⟨g0, g1⟩ := h7 i m hm
    exact ⟨hb.cell (World.block_lt_of_cell? w _ g0) |>.trans g0, hb.cell (World.block_lt_of_cell? w _ g1) |>.trans g1⟩
theorem order8 (w0 : World) (v : Value) (ms : List Mv) (spare : Int) (k : Nat) (hrow : MvRow w0 v ms) (hsp : I64 spare) (hm : ms.length ≤ 1000000) (hkk : k ≤ 2000) (r : Option (List Mv)) (no : Int)
    (hr : (badP spare ms (fun _ => none) = true ∧ r = none ∧ no = 1) ∨ (badP spare ms (fun _ => none) = false ∧ 1000 < ms.length ∧ r = none ∧ no = 2) ∨ (badP spare ms (fun _ => none) = false ∧ ms.length ≤ 1000 ∧ ∃ l, r = some l ∧ sortedP ms spare k = some l)) :
    Calls Try.prog 8 #[v, .int .i64 spare] w0 fun e w' => OrdPost w0 e w' r no := by
  have HB := Lib.hid (bad14 w0 v ms spare hrow hm)
  have HS := Lib.hid (fun (w : World) (hb : Below w0.heap.size w0 w) (l : List Mv) (hl : sortedP ms spare k = some l) (hn : ms.length ≤ 1000) => sorted15 w v ms l spare k (hrow.below hb) hsp hl hn hkk)
  obtain ⟨⟨a, c, rfl, hc, hcm, _⟩, _⟩ := hrow
  rcases hr with ⟨h1, rfl, rfl⟩ | ⟨h1, h2, rfl, rfl⟩ | ⟨h1, h2, l, rfl, h3⟩
  · rw [h1] at HB
    clear h1
    go_enter Try.func8, Try.ntmps8
    go_wp2_with (first | (go_at_call 14; refine HB.out.mono ?_; rintro e w2 ⟨rfl, hb2⟩; have HB2 := Lib.hid hb2; clear hb2))
    refine bodyPost_ret (v := .tuple #[.slice none 0 0, .int .i64 1]) (by simp [results, Try.results8, go_sem]) rfl ?_
    exact ⟨HB2.out, rfl⟩
  · rw [h1] at HB
    have h2' : (1000 : Int) < (ms.length : Int) := by omega
    clear h1
    go_enter Try.func8, Try.ntmps8
    go_wp2_with (first | (go_at_call 14; refine HB.out.mono ?_; rintro e w2 ⟨rfl, hb2⟩; have HB2 := Lib.hid hb2; clear hb2))
    refine bodyPost_ret (v := .tuple #[.slice none 0 0, .int .i64 2]) (by simp [results, Try.results8, go_sem]) rfl ?_
    exact ⟨HB2.out, rfl⟩
  · rw [h1] at HB
    have h2' : ¬ (1000 : Int) < (ms.length : Int) := by omega
    have H3 := Lib.hid h3
    have H2 := Lib.hid h2
    clear h1 h3 h2
    go_enter Try.func8, Try.ntmps8
    go_wp2_with (first | (go_at_call 14; refine HB.out.mono ?_; rintro e w2 ⟨rfl, hb2⟩; have HB2 := Lib.hid hb2; clear hb2) | (go_at_call 15; refine (HS.out w2 HB2.out l H3.out H2.out).mono ?_; rintro e w3 ⟨u, rfl, hu, hb3⟩; have HU := Lib.hid (And.intro hu hb3); obtain ⟨ao, co, rfl⟩ := own_shape hu; clear hu hb3))
    refine bodyPost_ret (v := .tuple #[.slice ao l.length co, .int .i64 0]) (by simp [results, Try.results8, go_sem]) rfl ?_
    have h5 := HU.out.1
    refine ⟨HB2.out.trans (HU.out.2.mono HB2.out.size), _, rfl, h5.1, ?_⟩
    rcases h5.2 with h6 | ⟨g, cap, cur, e1, e2, e3⟩
    · exact .inl h6
    · exact .inr ⟨g, cap, cur, e1, Nat.le_trans HB2.out.size e2, e3⟩
end Go.Proofs.Ytihnmhemhcmmoaa
