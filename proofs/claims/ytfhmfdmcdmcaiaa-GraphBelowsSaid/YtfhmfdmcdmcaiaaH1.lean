/- The walk of Below. -/
import Derived.Test.YtfhmfdmcdmcaiaaH0
namespace Go.Proofs.Ytfhmfdmcdmcaiaa
open Go Go.RowKit Go.Sort Go.Shelf
set_option maxHeartbeats 4000000
set_option maxRecDepth 100000
attribute [local go_sem] Oper.semAt_some

/-- what Below answers -/
def belowR (nm : List ByteArray) (needs : List (List ByteArray)) (at_ : Int) : List Nat :=
  if (orderR nm needs).2.2 = 0 ∧ 0 ≤ at_ ∧ at_ < (nm.length : Int) then (List.range nm.length).filter (marks (edgeRow nm needs) at_.toNat (orderP nm (edgeRow nm needs))) else []
def BelowPost (w0 : World) (nm : List ByteArray) (needs : List (List ByteArray)) (at_ : Int) (e : Ending) (w' : World) : Prop :=
  Below w0.heap.size w0 w' ∧ ∃ vo, e = .returned vo ∧ w'.ownsRow w0.heap.size 3 1 vo (belowR nm needs at_).length ((belowR nm needs at_).map iv)
theorem back_stops (F : Fence) (n N : Nat) (h7 : F.fn 33) (hro : F.round = none) (hn : 1 ≤ n) (Bs n₀ In b cap : Nat) (zs : List Nat) (hzs : ∀ z ∈ zs, z < N) (hreach : zs.length ≤ 1000) (hb : b < n₀) (hbi : b ≠ In) (hBs : Bs < n₀) (hBi : Bs ≠ In) (w : World) (hn0 : n₀ ≤ w.heap.size)
    (hc0 : w.cell? ⟨Bs, 0, none⟩ = some (.slice (some ⟨b, 0, none⟩) zs.length cap)) (hc : ∀ (j x : Nat), zs[j]? = some x → w.cell? ⟨b, j, none⟩ = some (iv x)) :
    SeqStopsK F n Try.prog 33 #[.pointer (some ⟨Bs, 0, none⟩)] (encB N) (KpI n₀ In) (fun ys : List (Px N) => ys.map (fun x => x.1.2) = zs.reverse) (fun _ => True) zs.length w := fun l J Jx W hW _ _ hY h0 =>
  back33 F n N h7 hro hn l Bs n₀ In b cap zs hzs hreach hb hbi hBs hBi J Jx hY W ((hW.cell (p := ⟨Bs, 0, none⟩) (by simp; omega)).trans hc0) (fun j x hx => (hW.cell (p := ⟨b, j, none⟩) (by simp; omega)).trans (hc j x hx)) h0
theorem own_base {w : World} {B e size n : Nat} {v : Value} {xs : List Value} (h : w.ownsRow B e size v n xs) : ∀ k, v.ownBlock = some k → B ≤ k := by
  intro k hk
  rcases h.2 with ⟨e1, _⟩ | ⟨g, cap, cur, e1, hB, _⟩
  · rw [e1] at hk; cases hk
  · rw [e1] at hk
    have : g = k := by simpa [Value.ownBlock] using hk
    omega
theorem at8 (w : World) (o : Obj) : ((w.alloc o).alloc (.cells #[.bool false, .bool false, .bool false, .bool false, .bool false, .bool false, .bool false, .bool false] 54)).heap[w.heap.size + 1]? = some (.cells #[.bool false, .bool false, .bool false, .bool false, .bool false, .bool false, .bool false, .bool false] 54) := by
  have := heap_alloc_new (w.alloc o) (.cells #[.bool false, .bool false, .bool false, .bool false, .bool false, .bool false, .bool false, .bool false] 54)
  rw [World.size_alloc] at this
  exact this
theorem in8 (w : World) (o : Obj) (k : Nat) (hk : k < 8) : ((w.alloc o).alloc (.cells #[.bool false, .bool false, .bool false, .bool false, .bool false, .bool false, .bool false, .bool false] 54)).cell? ⟨w.heap.size + 1, k, none⟩ = some (.bool false) := by
  refine cell_of (at8 w o) ?_
  match k, hk with
  | 0, _ => rfl
  | 1, _ => rfl
  | 2, _ => rfl
  | 3, _ => rfl
  | 4, _ => rfl
  | 5, _ => rfl
  | 6, _ => rfl
  | 7, _ => rfl
theorem fr8 (w : World) (o : Obj) (k : Nat) : ((w.alloc o).alloc (.cells #[.bool false, .bool false, .bool false, .bool false, .bool false, .bool false, .bool false, .bool false] 54)).frozen? ⟨w.heap.size + 1, k, none⟩ = false := thaw_of (at8 w o) k
theorem below15_ok (w0 : World) (vn vd : Value) (nm : List ByteArray) (needs : List (List ByteArray)) (t : Nat) (hn : StrRow w0 vn nm) (hd : NStr w0 vd needs) (hll : ∀ x ∈ needs, x.length ≤ 1000) (hnl : nm.length ≤ 1000000) (hok : (orderR nm needs).2.2 = 0) (ht : t < nm.length) :
    Calls Try.prog 15 #[vn, vd, iv t] w0 fun e w' => Below w0.heap.size w0 w' ∧ ∃ vo, e = .returned vo ∧ w'.ownsRow w0.heap.size 3 1 vo ((List.range nm.length).filter (marks (edgeRow nm needs) t (orderP nm (edgeRow nm needs)))).length (((List.range nm.length).filter (marks (edgeRow nm needs) t (orderP nm (edgeRow nm needs)))).map iv) := by
  obtain ⟨q1, q2, q3, q4, q5⟩ := order_fine hok
  have HO := Lib.hid (order10 w0 vn vd nm needs hn hd hll hnl)
  have HE := Lib.hid (fun (w : World) (hb : Below w0.heap.size w0 w) => edges18 w vn vd nm needs (hn.below hb) (hd.below hb) (by omega) hll)
  unfold OrderPost at HO
  rw [q5] at HO
  dsimp only at HO
  have hoo := order_ok nm (edgeRow nm needs)
  have hfl := full_len hoo.nd hoo.lt (all_in q4)
  rw [hfl] at HO
  unfold EdgePost at HE
  simp only [q3] at HE
  have HOO := Lib.hid hoo
  have HFL := Lib.hid hfl
  have HR0 := Lib.hid (edge_rows nm needs q3)
  have HALL := Lib.hid (all_in q4)
  generalize orderP nm (edgeRow nm needs) = out at HO HOO HFL HALL ⊢
  generalize edgeRow nm needs = E at HE HOO HR0 ⊢
  obtain ⟨an, cn, rfl, hn1, hn2, hn3⟩ := hn
  obtain ⟨ad, cd, rfl, hd1, hd2, hd3⟩ := hd
  have htl : (t : Int) < (nm.length : Int) := by omega
  have ht8 : t < 8 := by omega
  have ht81 : (t : Int) < 8 := by omega
  clear q2 q3 q4 q5 hok hn3 hd3 hoo hfl
  refine (callsIn_wide (n := 8)).1 ?_
  refine callsIn_of_wp_marks Try.func15 rfl trivial ?_ rfl
  simp only [Try.ntmps15, List.size_toArray, List.length_cons, List.length_nil, Nat.reduceAdd, Nat.reduceSub, Array.replicate_succ, Array.replicate_zero, List.push_toArray, List.append_toArray, List.nil_append, List.cons_append]
  gi_wp2_with (first | (refine ⟨trivial, ?_⟩; gi_at_call 10; refine (callsIn_wide.2 HO.out).mono ?_; rintro e w1 ⟨hb1, vo, rfl, ho1⟩; have HB1 := Lib.hid hb1; have HOW := Lib.hid ho1; obtain ⟨ao, co, rfl⟩ := own_shape ho1; clear hb1 ho1) | (refine ⟨trivial, ?_⟩; gi_at_call 18; refine (callsIn_wide.2 (HE.out w1 HB1.out)).mono ?_; rintro e w2 ⟨hb2, u, rfl, hn2⟩; have HB2 := Lib.hid hb2; have HNI := Lib.hid hn2; obtain ⟨T, cT, rfl, hT1, hT2⟩ := hn2.shape; rw [List.length_map, List.length_range] at HNI hT1; rw [List.length_map, List.length_range]; have hIN := in8 w2 (.cells #[.slice (some ⟨T, 0, none⟩) nm.length cT] 39) t ht8; have hFR := fr8 w2 (.cells #[.slice (some ⟨T, 0, none⟩) nm.length cT] 39) t; clear hb2 hn2) | (refine ⟨trivial, ?_⟩; gi_at_call 26; refine (backward26 _ _ trivial rfl _ _ _ _).mono ?_; rintro e w3 ⟨rfl, rfl⟩))
  have ho0 := HOW.out
  obtain ⟨bo, rfl, hbo1, hbo2⟩ : ∃ bo, ao = some ⟨bo, 0, none⟩ ∧ bo < w1.heap.size ∧ ∀ (j x : Nat), out[j]? = some x → w1.cell? ⟨bo, j, none⟩ = some (iv x) := by
    rcases ho0.2 with ⟨_, e⟩ | ⟨g, cap, cur, e, hB, hg, hnc, hcm, hsz, htk⟩
    · omega
    · simp only [Value.slice.injEq] at e
      obtain ⟨rfl, _, rfl⟩ := e
      refine ⟨g, rfl, lt_of hg, fun j x hx => cell_of hg ?_⟩
      have hj : j < nm.length := by rw [← HFL.out]; exact (List.getElem?_eq_some_iff.1 hx).1
      have h1 : (cur.toList.take (nm.length * 1))[j]? = (out.map iv)[j]? := by rw [htk]
      rw [List.getElem?_take_of_lt (by omega), Array.getElem?_toList, List.getElem?_map, hx] at h1
      exact h1
  clear ho0 hIN hFR
  obtain ⟨WL, hWL⟩ : ∃ WL, ((w2.alloc (.cells #[.slice (some ⟨T, 0, none⟩) nm.length cT] 39)).alloc (.cells ([.bool false, .bool false, .bool false, .bool false, .bool false, .bool false, .bool false, .bool false].set t (.bool true)).toArray 54)).alloc (.cells #[.slice (some ⟨bo, 0, none⟩) nm.length co] 26) = WL := ⟨_, rfl⟩
  rw [hWL]
  have hsz : WL.heap.size = w2.heap.size + 3 := by rw [← hWL]; simp
  have hBL : Below w2.heap.size w2 WL := by
    rw [← hWL]
    exact (((Below.refl _ _).alloc (Nat.le_refl _) _).alloc (by simp) _).alloc (by simp; omega) _
  have hbx : WL.heap[w2.heap.size + 1 + 1]? = some (.cells #[.slice (some ⟨bo, 0, none⟩) nm.length co] 26) := by
    rw [← hWL]
    have := heap_alloc_new ((w2.alloc (.cells #[.slice (some ⟨T, 0, none⟩) nm.length cT] 39)).alloc (.cells ([.bool false, .bool false, .bool false, .bool false, .bool false, .bool false, .bool false, .bool false].set t (.bool true)).toArray 54)) (.cells #[.slice (some ⟨bo, 0, none⟩) nm.length co] 26)
    simpa using this
  have hin : WL.heap[w2.heap.size + 1]? = some (.cells ([.bool false, .bool false, .bool false, .bool false, .bool false, .bool false, .bool false, .bool false].set t (.bool true)).toArray 54) := by
    rw [← hWL]
    refine (Below.heap_alloc _ _ _ (by simp)).trans ?_
    have := heap_alloc_new (w2.alloc (.cells #[.slice (some ⟨T, 0, none⟩) nm.length cT] 39)) (.cells ([.bool false, .bool false, .bool false, .bool false, .bool false, .bool false, .bool false, .bool false].set t (.bool true)).toArray 54)
    simpa using this
  have htb : WL.heap[w2.heap.size]? = some (.cells #[.slice (some ⟨T, 0, none⟩) nm.length cT] 39) := by
    rw [← hWL]
    exact (Below.heap_alloc _ _ _ (by simp; omega)).trans ((Below.heap_alloc _ _ _ (by simp)).trans (heap_alloc_new _ _))
  have HI0 : ∀ k, k < 8 → WL.cell? ⟨w2.heap.size + 1, k, none⟩ = some (.bool (k == t)) ∧ WL.frozen? ⟨w2.heap.size + 1, k, none⟩ = false := fun k hk => by
    refine ⟨cell_of hin ?_, thaw_of hin k⟩
    rw [List.getElem?_toArray, List.getElem?_set]
    by_cases e : t = k
    · subst e; rw [if_pos rfl, if_pos (by simpa using hk)]; simp
    · rw [if_neg e]
      have e2 : (k == t) = false := by simp [Ne.symm e]
      rw [e2]
      match k, hk with
      | 0, _ => rfl
      | 1, _ => rfl
      | 2, _ => rfl
      | 3, _ => rfl
      | 4, _ => rfl
      | 5, _ => rfl
      | 6, _ => rfl
      | 7, _ => rfl
  clear hWL
  have HOWN := HOW
  refine wpIn_rangeFunc_ownG (F := Fence.wide) (n := 8) rfl (by decide) (gf := 33) (lb := #[.pointer (some ⟨w2.heap.size + 1 + 1, 0, none⟩)]) rfl trivial (enters_of Try.func33 (by kernel_rfl) rfl)
    (back_stops Fence.wide (8 - 1) nm.length trivial rfl (by omega) (w2.heap.size + 1 + 1) (w2.heap.size + 3) (w2.heap.size + 1) bo co out HOO.out.lt (by rw [HFL.out]; omega) (by have := HB2.out.size; omega) (by have := HB2.out.size; omega) (by omega) (by omega) WL (by omega) (by rw [HFL.out]; exact cell_of hbx rfl) (fun j x hx => ((hBL.cell (p := ⟨bo, j, none⟩) (by have := HB2.out.size; simp; omega)).trans (HB2.out.cell (p := ⟨bo, j, none⟩) hbo1)).trans (hbo2 j x hx)))
    KpI.t (KpI.b (by omega)) (Below.refl _ _) (fun _ => rfl)
    (fun pre W => ((∀ k, k < 8 → W.cell? ⟨w2.heap.size + 1, k, none⟩ = some (.bool ((pre.map (fun x => x.1.2)).foldl (stepM E) (fun k => k == t) k)) ∧ W.frozen? ⟨w2.heap.size + 1, k, none⟩ = false) ∧ W.cell? ⟨w2.heap.size, 0, none⟩ = some (.slice (some ⟨T, 0, none⟩) nm.length cT)) ∧ Below w2.heap.size w2 W)
    (fun _ _ _ => False)
    (OwnFrom.and (Own.from (fun s A B row hs hg hr => ⟨fun k hk => ⟨cell_kept (hs.1 k hk).1 hg hr, (frozen_kept (hs.1 k hk).1 hg hr).trans (hs.1 k hk).2⟩, cell_kept hs.2 hg hr⟩) _) (ownFrom_below (Nat.le_refl _) (by omega)))
    (fun _ _ _ _ _ hs _ _ => hs)
    ⟨⟨HI0, cell_of htb rfl⟩, hBL⟩
    (fun x => { tmps := #[.slice an nm.length cn, .slice ad needs.length cd, iv t, undef, undef, undef, .slice none 0 0,
          .slice (some ⟨bo, 0, none⟩) nm.length co, iv 0, .int .i64 0,
          .pointer (some ⟨w2.heap.size, 0, none⟩), .int .i64 (-1),
          .pointer (some ⟨w2.heap.size + 1, 0, none⟩), undef, iv x.1.2, undef, undef, undef, undef,
          .tuple #[.slice (some ⟨bo, 0, none⟩) nm.length co, iv 0, .int .i64 0], .slice an nm.length cn,
          .slice ad needs.length cd, .tuple #[.slice (some ⟨bo, 0, none⟩) nm.length co, iv 0, .int .i64 0],
          .slice (some ⟨bo, 0, none⟩) nm.length co, iv 0, .int .i64 0, .int .i64 0, .bool false,
          .bool false, iv t, .bool (decide ((t : Int) < 0)), .bool (decide ((t : Int) < 0)),
          .bool (decide ((t : Int) < 0)), iv t, .slice an nm.length cn, .int .i64 (nm.length : Int),
          .bool false, .bool (decide ((t : Int) < 0)),
          .tuple #[.slice (some ⟨T, 0, none⟩) nm.length cT, .int .i64 (-1)],
          .slice an nm.length cn, .slice ad needs.length cd,
          .tuple #[.slice (some ⟨T, 0, none⟩) nm.length cT, .int .i64 (-1)],
          .slice (some ⟨T, 0, none⟩) nm.length cT, .int .i64 (-1), iv t,
          .pointer (some ⟨w2.heap.size + 1, t, none⟩), .slice (some ⟨bo, 0, none⟩) nm.length co,
          .func (.func 33) #[] #[.pointer (some ⟨w2.heap.size + 1 + 1, 0, none⟩)], iv x.1.1, iv x.1.2, undef, undef, undef, undef, undef, undef, undef, undef, undef, undef, undef, undef, undef, undef, undef, undef, undef, undef, undef, undef, undef, undef, undef, undef, undef, undef, undef, undef, undef, undef, undef, undef, undef, undef], defers := [] }) ?assign ?body ?done ?stop
  case assign =>
    intro l x W K hK
    unfold encB
    gi_wp2
    exact hK
  case body =>
    rintro l pre ⟨⟨y, i⟩, hi⟩ W ⟨⟨hcs, hbx⟩, hB⟩ _
    dsimp only at hi
    dsimp only
    obtain ⟨u, hu, hus⟩ := HNI.out.row i (E i) (by simp [hi])
    obtain ⟨au, cu, rfl, hu1, hu2, hu3⟩ := hus
    unfold maxLen at hu2
    have c0 := (hB.cell (World.block_lt_of_cell? w2 _ hu)).trans hu
    have hT := World.block_lt_of_cell? w2 _ hu
    have hi1 : (i : Int) < (nm.length : Int) := by omega
    have hi8 : i < 8 := by omega
    have hi81 : (i : Int) < 8 := by omega
    obtain ⟨M, hM⟩ : ∃ M, (pre.map (fun x => x.1.2)).foldl (stepM E) (fun k => k == t) = M := ⟨_, rfl⟩
    have hMN : (((pre ++ [(⟨(y, i), hi⟩ : Px nm.length)]).map (fun x => x.1.2)).foldl (stepM E) (fun k => k == t)) = stepM E M i := by rw [List.map_append, List.foldl_append, hM]; rfl
    have HMN := Lib.hid hMN
    simp only [hM] at hcs
    have HCS := Lib.hid hcs
    have HB := Lib.hid hB
    have HU3 := Lib.hid hu3
    have HBX := Lib.hid hbx
    clear hM hMN hcs hB hu hu3 hT
    gi_wp2
    gi_loopw [55] (fun v wr => ∃ j : Nat, j ≤ (E i).length ∧ v = iv j ∧ Hid (KeepsOthers W wr ∧ KpI (w2.heap.size + 3) (w2.heap.size + 1) W wr ∧ Below w2.heap.size w2 wr ∧ ∀ k, k < 8 → wr.cell? ⟨w2.heap.size + 1, k, none⟩ = some (.bool (M k || (((E i).take j).any (fun z => z.toNat == k) && M i))) ∧ wr.frozen? ⟨w2.heap.size + 1, k, none⟩ = false)) (fun v _ => (E i).length - (intOf v).toNat)
    case atStart => exact ⟨0, by omega, rfl, Lib.hid ⟨KeepsOthers.refl _, fun _ _ _ => rfl, HB.out, fun k hk => by simpa using HCS.out k hk⟩⟩
    case round =>
      obtain ⟨j, hj, rfl, HR⟩ := hrel
      by_cases hjl : j < (E i).length
      · have hj1 : (j : Int) < ((E i).length : Int) := by omega
        obtain ⟨z, hz⟩ : ∃ z, (E i)[j]? = some z := ⟨_, List.getElem?_eq_getElem hjl⟩
        have hzm := List.mem_of_getElem? hz
        have hz0 := HR0.out.lo i hi z hzm
        obtain ⟨k, hk⟩ : ∃ k : Nat, z = (k : Int) := ⟨z.toNat, by omega⟩
        subst hk
        have hio := HALL.out i hi
        obtain ⟨p, hp, ep⟩ := List.getElem_of_mem hio
        have hkm := HOO.out.be p i (by rw [List.getElem?_eq_getElem hp, ep]) (k : Int) hzm
        have hkl : k < nm.length := HOO.out.lt _ (List.mem_of_mem_take (by simpa using hkm))
        have hk8 : k < 8 := by omega
        have hk81 : (k : Int) < 8 := by omega
        rcases HU3.out with h0 | ⟨bu, curu, rfl, hgu, hcu⟩
        · rw [h0] at hz; simp at hz
        have d0 : wr.cell? ⟨bu, j, none⟩ = some (.int .i64 (k : Int)) := (HR.out.2.2.1.cell (lt_of hgu)).trans (cell_of hgu (hcu j _ hz))
        obtain ⟨e0, e1⟩ := HR.out.2.2.2 k hk8
        obtain ⟨g0, g1⟩ := HR.out.2.2.2 i hi8
        obtain ⟨a, ha⟩ : ∃ a, (M k || (((E i).take j).any (fun z => z.toNat == k) && M i)) = a := ⟨_, rfl⟩
        obtain ⟨b, hb⟩ : ∃ b, M i = b := ⟨_, rfl⟩
        have gb : (M i || (((E i).take j).any (fun z => z.toNat == i) && M i)) = b := by rw [hb]; cases b <;> simp
        rw [ha] at e0
        rw [gb] at g0
        have HNX : Hid (∀ (v : Bool), v = (a || b) → ∀ q, q < 8 → (wr.setCell ⟨w2.heap.size + 1, k, none⟩ (.bool v)).cell? ⟨w2.heap.size + 1, q, none⟩ = some (.bool (M q || (((E i).take (j + 1)).any (fun z => z.toNat == q) && M i))) ∧ (wr.setCell ⟨w2.heap.size + 1, k, none⟩ (.bool v)).frozen? ⟨w2.heap.size + 1, q, none⟩ = false) := Lib.hid (fun v hv q hq => by
          obtain ⟨n0, n1⟩ := HR.out.2.2.2 q hq
          refine ⟨?_, by rw [World.frozen?_setCell]; exact n1⟩
          rw [List.take_add_one, hz, List.any_append]
          by_cases e : q = k
          · subst e
            rw [World.cell?_setCell_same' _ _ _ (by rw [e0]; rfl), hv, ← ha, hb]
            simp only [Option.toList, List.any_cons, List.any_nil, Int.toNat_natCast, beq_self_eq_true, Bool.or_true, Bool.true_or, Bool.true_and]
            cases M q <;> cases b <;> simp
          · rw [World.cell?_setCell_other _ _ _ _ (by simp)]
            rw [n0]
            have : ((k : Int).toNat == q) = false := by simp [Ne.symm e]
            simp only [Option.toList, List.any_cons, List.any_nil, this, Bool.or_false])
        have HWK := Lib.hid (fun (v : Bool) => (show KeepsOthers W (wr.setCell ⟨w2.heap.size + 1, k, none⟩ (.bool v)) ∧ KpI (w2.heap.size + 3) (w2.heap.size + 1) W (wr.setCell ⟨w2.heap.size + 1, k, none⟩ (.bool v)) ∧ Below w2.heap.size w2 (wr.setCell ⟨w2.heap.size + 1, k, none⟩ (.bool v)) from ⟨HR.out.1.trans (KeepsOthers.setCell _ _ _), HR.out.2.1.t (fun b h1 h2 => Below.heap_setCell _ _ _ _ h2), HR.out.2.2.1.setCell (by simp) _⟩))
        clear hz hzm hz0 hio hp ep hkm hgu hcu ha hb gb
        cases a with
        | true =>
          gi_wp2
          go_roundw
          case rel => exact ⟨j + 1, by omega, by go_num, Lib.hid ⟨(HWK.out true).1, (HWK.out true).2.1, (HWK.out true).2.2, HNX.out true rfl⟩⟩
          case measure => simp [intOf]; omega
        | false =>
          gi_wp2
          go_roundw
          case rel => exact ⟨j + 1, by omega, by go_num, Lib.hid ⟨(HWK.out b).1, (HWK.out b).2.1, (HWK.out b).2.2, HNX.out b (by simp)⟩⟩
          case measure => simp [intOf]; omega
      · obtain rfl : j = (E i).length := by omega
        gi_wp2
        refine ⟨HR.out.1.from _, HR.out.2.1, ⟨fun k hk => ?_, ?_⟩, HR.out.2.2.1⟩
        · obtain ⟨n0, n1⟩ := HR.out.2.2.2 k hk
          refine ⟨?_, n1⟩
          rw [n0, HMN.out, List.take_length]
          rfl
        · exact (World.cell?_of_block (HR.out.2.1 w2.heap.size (by omega) (by omega))).trans HBX.out
  case done =>
    rintro D ys W hD hys ⟨⟨hcs, _⟩, hB⟩ hK
    have hmk : (ys.map (fun x => x.1.2)).foldl (stepM E) (fun k => k == t) = marks E t out := by
      rw [hys, List.foldl_reverse]; rfl
    simp only [hmk] at hcs
    obtain ⟨i9, hi9, hz90, hz91, hz92⟩ := info_parts info3
    have HCS := Lib.hid hcs
    have HB0 := Lib.hid (HB1.out.trans ((HB2.out.mono HB1.out.size).trans (hB.mono (Nat.le_trans HB1.out.size HB2.out.size))))
    have HK := Lib.hid hK
    have HD := Lib.hid (show w0.heap.size ≤ D from by have := HB1.out.size; have := HB2.out.size; omega)
    obtain ⟨M, hMe⟩ : ∃ M, marks E t out = M := ⟨_, rfl⟩
    rw [hMe] at HCS
    have HME := Lib.hid hMe
    clear hMe
    clear hcs hmk hB hys hK
    gi_wp2
    gi_loopw [17, 72] (fun v17 v72 wr => ∃ (k : Nat) (ao : Option Addr) (co : Nat), k ≤ nm.length ∧ v17 = .slice ao ((List.range k).filter M).length co ∧ v72 = iv k ∧ Hid (Below W.heap.size W wr ∧ wr.ownsRow W.heap.size 3 1 (.slice ao ((List.range k).filter M).length co) ((List.range k).filter M).length (((List.range k).filter M).map iv))) (fun _ v72 _ => nm.length - (intOf v72).toNat)
    case atStart => exact ⟨0, none, 0, by omega, rfl, rfl, Lib.hid ⟨Below.refl _ _, ⟨rfl, .inl ⟨rfl, rfl⟩⟩⟩⟩
    case round =>
      obtain ⟨k, ao, co, hk, rfl, rfl, HR⟩ := hrel
      obtain ⟨q, hq⟩ : ∃ q, ((List.range k).filter M).length = q := ⟨_, rfl⟩
      have hql : q ≤ k := by
        have := List.length_filter_le M (List.range k)
        rw [List.length_range] at this
        omega
      have HQ := Lib.hid hq
      rw [hq] at HR ⊢
      clear hq
      by_cases hkl : k < nm.length
      · have hk1 : (k : Int) < (nm.length : Int) := by omega
        have hk8 : (k : Int) < 8 := by omega
        obtain ⟨c0, _⟩ := HCS.out k (by omega)
        have c1 := (HR.out.1.cell (World.block_lt_of_cell? W _ c0)).trans c0
        obtain ⟨b, hb⟩ : ∃ b, M k = b := ⟨_, rfl⟩
        rw [hb] at c1
        have HF := Lib.hid (show (List.range (k + 1)).filter M = (List.range k).filter M ++ (if b = true then [k] else []) by
          rw [List.range_succ, List.filter_append, List.filter_cons, hb]; rfl)
        clear hb c0
        cases b with
        | true =>
          have HSZ := Lib.hid HR.out.1.size
          have HOW := Lib.hid HR.out.2
          gi_wp2_with (gi_at_builtin; refine wpListIn_append_own _ rfl _ _ 26 rfl W.heap.size 3 i9 (.int .i64 0) 1 8 Try.underlying26 hi9 hz90 hz91 hz92 rfl (by decide) _ q _ rfl (HOW.out.alloc _) ⟨wr.heap.size, 0, none⟩ 1 1 [iv k] rfl rfl (World.news_of_block (cs := #[iv k]) (t := 3) (fr := (0, 0)) (heap_alloc_new wr _)) (by simp [Value.oneCell']) (by unfold maxLen; omega) (by omega) (by have := HSZ.out; simp; omega) ?_; intro v' w5 hown' hgrow _; obtain ⟨g', cap', rfl⟩ := ownsRow_succ hown'; have HO5 := Lib.hid hown'; have hb5 := (HR.out.1.alloc HSZ.out (.cells #[iv k] 3)).grown hgrow (by have := HSZ.out; simp; omega) (fun y hy => (own_base HOW.out y hy)); have HB5 := Lib.hid hb5; clear hown' hgrow hb5)
          go_roundw
          case rel =>
            have hl5 : ((List.range (k + 1)).filter M).length = q + 1 := by rw [HF.out, List.length_append, HQ.out]; rfl
            exact ⟨k + 1, some ⟨g', 0, none⟩, cap', by omega, by rw [hl5], by go_num, Lib.hid ⟨HB5.out, by rw [hl5, HF.out, List.map_append]; exact HO5.out⟩⟩
          case measure => simp [intOf]; omega
        | false =>
          gi_wp2
          go_roundw
          case rel =>
            have hl5 : ((List.range (k + 1)).filter M) = ((List.range k).filter M) := by rw [HF.out]; simp
            exact ⟨k + 1, ao, co, by omega, by rw [hl5, HQ.out], by go_num, Lib.hid (by rw [hl5, HQ.out]; exact HR.out)⟩
          case measure => simp [intOf]; omega
      · obtain rfl : k = nm.length := by omega
        have hDl : D < W.heap.size := (Array.getElem?_eq_some_iff.1 HK.out).1
        have hK' : wr.heap[D]? = some (.deferred (some [])) := (HR.out.1.block D hDl).trans HK.out
        have HK2 := Lib.hid hK'
        clear hK' hDl
        gi_wp2
        refine ⟨by simp, .inl ⟨_, _, rfl, run_takeDeferred HK2.out, ?_⟩⟩
        refine ⟨_, results_tmp rfl _ _ _, ?_, _, rfl, ?_⟩
        · have hs1 := HB0.out.size
          have hs2 := HR.out.1.size
          exact (HB0.out.trans (HR.out.1.mono hs1)).grown (grownBy_putObj' _ D (.deferred none)) (by omega) (fun k e => by cases e; exact HD.out)
        · have := ownsRow_putObj HR.out.2 (.deferred none) HK2.out rfl
          rw [HME.out, HQ.out]
          refine ⟨this.1, ?_⟩
          rcases this.2 with h2 | ⟨g, cap, cur, e, hB, h3⟩
          · exact .inl h2
          · exact .inr ⟨g, cap, cur, e, Nat.le_trans HB0.out.size hB, h3⟩
  case stop =>
    rintro D c pre W _ _ h _
    exact h.elim
end Go.Proofs.Ytfhmfdmcdmcaiaa
