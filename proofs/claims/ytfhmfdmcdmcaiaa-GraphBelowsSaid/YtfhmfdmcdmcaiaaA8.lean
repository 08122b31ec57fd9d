/- The walk of edges. -/
import Derived.Test.YtfhmfdmcdmcaiaaA7
namespace Go.Proofs.Ytfhmfdmcdmcaiaa
open Go Go.RowKit Go.Sort
set_option maxHeartbeats 4000000
set_option maxRecDepth 100000

def EdgePost (w0 : World) (nm : List ByteArray) (needs : List (List ByteArray)) (e : Ending) (w' : World) : Prop :=
  Below w0.heap.size w0 w' ∧ match badE nm needs with
  | some i => e = .returned (.tuple #[.slice none 0 0, iv i])
  | none => ∃ u, e = .returned (.tuple #[u, .int .i64 (-1)]) ∧ NInt w' u ((List.range nm.length).map (edgeRow nm needs))
theorem once_nil : once [] = [] := by
  cases h : once [] with
  | nil => rfl
  | cons x l => have := (once_mem [] x).1 (by rw [h]; simp); simp at this
theorem edges_done {w0 wr : World} {nm : List ByteArray} {needs : List (List ByteArray)} {T i c : Nat} {cs : Array Value} (h : EInv w0 T nm.length (edgeRow nm needs) i wr cs) (hn : nm.length ≤ c) (hc : c ≤ maxLen) (hb : ∀ k, k < i → badRow nm (needOf needs k) = false) (hrest : ∀ k, i ≤ k → k < nm.length → needs.length ≤ k) : EdgePost w0 nm needs (.returned (.tuple #[.slice (some ⟨T, 0, none⟩) nm.length c, .int .i64 (-1)])) wr := by
  have hno : ∀ k, i ≤ k → k < nm.length → needOf needs k = [] := fun k h1 h2 => by
    unfold needOf
    rw [List.getD_eq_getElem?_getD, List.getElem?_eq_none (hrest k h1 h2)]; rfl
  have hbe : badE nm needs = none := find_none (fun k hk => by
    by_cases h1 : k < i
    · exact hb k h1
    · rw [hno k (by omega) hk]; rfl)
  refine ⟨h.bel, ?_⟩
  rw [hbe]
  refine ⟨_, rfl, T, c, cs, by simp, by simpa using hn, hc, h.at_, fun k x hx => ?_⟩
  have hk : k < nm.length := by have := (List.getElem?_eq_some_iff.1 hx).1; simpa using this
  have hx2 : edgeRow nm needs k = x := by
    rw [List.getElem?_map, List.getElem?_range hk] at hx
    simpa using hx
  by_cases h1 : k < i
  · rw [← hx2]; exact h.done k h1
  · refine ⟨_, h.rest k (by omega) hk, ?_⟩
    rw [← hx2]
    unfold edgeRow
    rw [hno k (by omega) hk]
    have e0 : once (ids nm []) = [] := once_nil
    rw [e0]
    exact ⟨none, 0, rfl, Nat.le_refl _, by unfold maxLen; omega, .inl rfl⟩
theorem edges18 (w0 : World) (vn vd : Value) (nm : List ByteArray) (needs : List (List ByteArray)) (hn : StrRow w0 vn nm) (hd : NStr w0 vd needs) (hnl : nm.length ≤ 100) (hll : ∀ x ∈ needs, x.length ≤ 1000) :
    Calls Try.prog 18 #[vn, vd] w0 fun e w' => EdgePost w0 nm needs e w' := by
  have HIX := Lib.hid (fun (w : World) (hb : Below w0.heap.size w0 w) (s : ByteArray) => index27 (hn.below hb) s)
  obtain ⟨an, cn, rfl, hn1, hn2, _⟩ := hn
  obtain ⟨ad, cd, rfl, hd1, hd2, hd3⟩ := hd
  have HD3 := Lib.hid hd3
  have HLL := Lib.hid hll
  have hmk := fun w => make39 w nm.length (by omega)
  have HE0 := Lib.hid (EInv.start (w0 := w0) (n := nm.length) (row := edgeRow nm needs))
  obtain ⟨i9, hi9, hz90, hz91, hz92⟩ := info_parts info3
  clear hd3 hll
  go_enter Try.func18, Try.ntmps18
  go_wp2_with fail
  go_loopw [16] (fun iv16 wr => ∃ (i : Nat) (cs : Array Value), i ≤ nm.length ∧ iv16 = iv i ∧ Hid (EInv w0 w0.heap.size nm.length (edgeRow nm needs) i wr cs) ∧ Hid (∀ k, k < i → badRow nm (needOf needs k) = false)) (fun iv16 _ => nm.length - (intOf iv16).toNat)
  case atStart => exact ⟨0, _, by omega, rfl, HE0, Lib.hid (fun k hk => by omega)⟩
  case round =>
    obtain ⟨i, cs, hi, rfl, HE, HB⟩ := hrel
    by_cases hil : i < nm.length
    · obtain ⟨wo, hwo⟩ : ∃ wo : World, wo = wr := ⟨_, rfl⟩
      subst hwo
      have hi1 : (i : Int) < (nm.length : Int) := by omega
      by_cases hin : i < needs.length
      · have hi2 : ¬ (needs.length : Int) ≤ (i : Int) := by omega
        have hi3 : (i : Int) < (needs.length : Int) := by omega
        rcases HD3.out with h0 | ⟨bd, od, rfl, hcd⟩
        · rw [h0] at hin; simp at hin
        obtain ⟨ss, hss⟩ : ∃ ss, needs[i]? = some ss := ⟨_, List.getElem?_eq_getElem hin⟩
        obtain ⟨u, hu, hus⟩ := hcd i ss hss
        have hsl := HLL.out ss (List.mem_of_getElem? hss)
        have hno : needOf needs i = ss := by unfold needOf; rw [List.getD_eq_getElem?_getD, hss]; rfl
        obtain ⟨au, cu, rfl, hu1, hu2, hu3⟩ := hus
        have f0 := (HE.out.bel.cell (World.block_lt_of_cell? w0 _ hu)).trans hu
        have HU3 := Lib.hid hu3
        have HNO := Lib.hid hno
        have HR0 := Lib.hid (RowIn.start HE.out hil)
        have HSZ := Lib.hid (show i < cs.size by rw [HE.out.sz]; exact hil)
        clear hcd hss hu hu3 hno
        go_wp2_with fail
        go_loopw [28] (fun jv wr => ∃ (j : Nat) (av : Option Addr) (cv : Nat), j ≤ ss.length ∧ jv = iv j ∧ Hid (RowIn w0.heap.size i cs wo (.slice av j cv) j (ids nm (ss.take j)) wr) ∧ Hid (∀ s ∈ ss.take j, 0 ≤ Lib.idxOfS nm s)) (fun jv _ => ss.length - (intOf jv).toNat)
        case atStart => exact ⟨0, none, 0, by omega, rfl, HR0, Lib.hid (fun s hs => by simp at hs)⟩
        case round =>
          obtain ⟨j, av, cv, hj, rfl, HR, HG⟩ := hrel
          have hbx := HE.out.bel.trans (HR.out.two.below (B := w0.heap.size) (Nat.le_refl _) (fun x e => by cases e) HE.out.bel.size)
          have HBX := Lib.hid hbx
          have c0 : wr.cell? ⟨w0.heap.size, i, none⟩ = some (.slice av j cv) := cell_of HR.out.at_ (by simp [HSZ.out])
          clear hbx
          by_cases hjl : j < ss.length
          · have hj1 : (j : Int) < (ss.length : Int) := by omega
            rcases HU3.out with h0 | ⟨bs, os, rfl, hcs⟩
            · rw [h0] at hjl; simp at hjl
            obtain ⟨s, hs⟩ : ∃ s, ss[j]? = some s := ⟨_, List.getElem?_eq_getElem hjl⟩
            have q0 := hcs j s hs
            have f1 := (HBX.out.cell (World.block_lt_of_cell? w0 _ q0)).trans q0
            have HI := Lib.hid (HIX.out wr HBX.out s)
            obtain ⟨k, hk⟩ : ∃ k, Lib.idxOfS nm s = k := ⟨_, rfl⟩
            rw [hk] at HI
            have HS := Lib.hid (And.intro hs hk)
            clear hcs hs hk q0
            by_cases hneg : k < 0
            · have HBE := Lib.hid (show badE nm needs = some i from find_first hil (by
                rw [HNO.out]
                unfold badRow
                rw [List.any_eq_true]
                exact ⟨s, List.mem_of_getElem? HS.out.1, by rw [HS.out.2]; simpa using hneg⟩) (fun q hq => HB.out q hq))
              go_wp2_with (first | (go_at_call 27; refine HI.out.mono ?_; rintro e w6 ⟨rfl, hw6⟩; obtain rfl := hw6.symm))
              refine bodyPost_ret (v := .tuple #[.slice none 0 0, iv i]) (by simp [results, Try.results18, go_sem]) rfl ?_
              refine ⟨HBX.out, ?_⟩
              rw [HBE.out]
            · have hROW : wr.ownsRow wo.heap.size 3 1 (.slice av j cv) j ((ids nm (ss.take j)).map (Value.int .i64)) := HR.out.own
              have HROW := Lib.hid hROW
              have HSW := Lib.hid HR.out.two.size
              have HTK := Lib.hid (show (ids nm (ss.take (j + 1))).map (Value.int .i64) = (ids nm (ss.take j)).map (Value.int .i64) ++ [.int .i64 k] by
                rw [List.take_add_one, HS.out.1]
                unfold ids
                simp [HS.out.2])
              have HTU := Lib.hid (fun (w2 : World) (gg cap : Nat) (ho : w2.ownsRow wo.heap.size 3 1 (.slice (some ⟨gg, 0, none⟩) (j + 1) cap) (j + 1) ((ids nm (ss.take j)).map (Value.int .i64) ++ [.int .i64 k])) (hg : (wr.alloc (.cells #[.int .i64 k] 3)).grownBy w2 (Value.slice av j cv).ownBlock) (hat : gg ≠ w0.heap.size) =>
                HR.out.turn HSZ.out ((Below.refl _ _).alloc (Nat.le_refl _) _) (by rw [← HTK.out] at ho; exact ho) hg (fun x hx => by
                  have : gg = x := by simpa [Value.ownBlock] using hx
                  rw [← this]; exact hat))
              have HGB := Lib.hid HR.out.gb
              have HTX := Lib.hid (lt_of HR.out.at_)
              clear hROW
              go_wp2_with (first | (go_at_call 27; refine HI.out.mono ?_; rintro e w6 ⟨rfl, hw6⟩; obtain rfl := hw6.symm) | (at_builtin; refine wpList_append_lies _ rfl _ _ _ rfl wo.heap.size 3 i9 _ 1 8 Try.underlying26 hi9 hz90 hz91 hz92 rfl (by decide) _ j _ rfl (HROW.out.alloc _) ⟨wr.heap.size, 0, none⟩ 1 1 [.int .i64 k] rfl rfl (World.news_of_block (cs := #[.int .i64 k]) (t := 3) (fr := (0, 0)) (heap_alloc_new wr _)) (by simp [Value.oneCell']) (by omega) (by unfold maxLen; omega) (by omega) (by have := HSW.out; simp; omega) (wr.heap.size + 1) (by simp) ?_; intro gg cap w2 hown2 hgrow hat hlt2; obtain ⟨b1, b2, hin2⟩ := HTU.out w2 gg cap hown2 hgrow (by rcases hat with e | e; exact (HGB.out gg e).2.2; have := HTX.out; omega); have HIN2 := Lib.hid hin2; clear hown2 hgrow hat hlt2 hin2))
              refine ⟨⟨j + 1, _, _, by omega, by go_num, HIN2, Lib.hid ?_⟩, by simp [intOf]; omega⟩
              intro x hx
              rw [List.take_add_one, HS.out.1, List.mem_append] at hx
              rcases hx with hx | hx
              · exact HG.out x hx
              · simp at hx
                rw [hx, HS.out.2]; omega
          · obtain rfl : j = ss.length := by omega
            have hro := HR.out
            rw [List.take_length] at hro
            have HSO := Lib.hid (sort28 hro.own (by omega))
            have HCO := Lib.hid (fun (w3 : World) (ho : w3.ownsRow wo.heap.size 3 1 (.slice av ss.length cv) ss.length (((ids nm ss).mergeSort fun x y => decide (x ≤ y)).map (Value.int .i64))) => compact29 ho (by omega))
            have HRO := Lib.hid (fun (w3 : World) (ho : w3.ownsRow wo.heap.size 3 1 (.slice av ss.length cv) ss.length (((ids nm ss).mergeSort fun x y => decide (x ≤ y)).map (Value.int .i64))) (hg : wr.grownBy w3 (Value.slice av ss.length cv).ownBlock) => hro.sorted ho hg)
            have hed : edgeRow nm needs i = Lib.compact ((ids nm ss).mergeSort fun x y => decide (x ≤ y)) := by unfold edgeRow once; rw [HNO.out]
            have HED := Lib.hid hed
            have HBR : Hid (badRow nm (needOf needs i) = false) := Lib.hid (by
              rw [HNO.out]
              unfold badRow
              rw [List.any_eq_false]
              intro s hs
              have := HG.out s (by rw [List.take_length]; exact hs)
              simp; omega)
            clear hed hro
            generalize (ids nm ss).mergeSort (fun x y => decide (x ≤ y)) = zs at HSO HCO HRO HED
            obtain ⟨m, hm⟩ : ∃ m, (Lib.compact zs).length = m := ⟨_, rfl⟩
            rw [hm] at HCO
            have HNX := Lib.hid (fun (w3 w4 : World) (h3 : RowIn w0.heap.size i cs wo (.slice av ss.length cv) ss.length zs w3) (ho : w4.ownsRow wo.heap.size 3 1 (.slice av m cv) m ((Lib.compact zs).map (Value.int .i64))) (hg : w3.grownBy w4 (Value.slice av ss.length cv).ownBlock) =>
              h3.turn (v2 := .slice av m cv) (zs2 := Lib.compact zs) HSZ.out (Below.refl _ _) ho hg (fun x hx => (h3.gb x (by cases av with | none => simp [Value.ownBlock] at hx | some a => simpa [Value.ownBlock] using hx)).2.2))
            clear hm
            go_wp2_with (first | (go_at_call 28; refine HSO.out.mono ?_; rintro e w3 ⟨⟨u3, rfl⟩, ho3, hg3⟩; have H3 := Lib.hid (HRO.out w3 ho3 hg3); have HO3 := Lib.hid ho3; have c3 : w3.cell? ⟨w0.heap.size, i, none⟩ = some (.slice av ss.length cv) := cell_of H3.out.at_ (by simp [HSZ.out]); clear ho3 hg3) | (go_at_call 29; refine (HCO.out w3 HO3.out).mono ?_; rintro e w4 ⟨rfl, ho4, hg4⟩; obtain ⟨b1, b2, hin4⟩ := HNX.out w3 w4 H3.out ho4 hg4; have HIN4 := Lib.hid hin4; clear ho4 hg4 hin4))
            refine ⟨⟨i + 1, _, by omega, by go_num, Lib.hid (HE.out.next hil (Nat.le_refl _) (by rw [HED.out]; exact HIN4.out)), Lib.hid ?_⟩, by simp [intOf]; omega⟩
            intro k hk
            by_cases e : k = i
            · rw [e]; exact HBR.out
            · exact HB.out k (by omega)
      · have hi2 : (needs.length : Int) ≤ (i : Int) := by omega
        have HDN := Lib.hid (edges_done HE.out (c := nm.length) (Nat.le_refl _) (by unfold maxLen; omega) HB.out (fun k h1 _ => by omega))
        go_wp2_with fail
        refine bodyPost_ret (v := .tuple #[.slice (some ⟨w0.heap.size, 0, none⟩) nm.length nm.length, .int .i64 (-1)]) (by simp [results, Try.results18, go_sem]) rfl ?_
        exact HDN.out
    · obtain rfl : i = nm.length := by omega
      have HDN := Lib.hid (edges_done HE.out (c := nm.length) (Nat.le_refl _) (by unfold maxLen; omega) HB.out (fun k h1 h2 => by omega))
      go_wp2_with fail
      refine bodyPost_ret (v := .tuple #[.slice (some ⟨w0.heap.size, 0, none⟩) nm.length nm.length, .int .i64 (-1)]) (by simp [results, Try.results18, go_sem]) rfl ?_
      exact HDN.out
end Go.Proofs.Ytfhmfdmcdmcaiaa
