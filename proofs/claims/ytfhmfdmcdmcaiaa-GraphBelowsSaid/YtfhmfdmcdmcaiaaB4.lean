/- The walk of Order. -/
import Derived.Test.YtfhmfdmcdmcaiaaB3
namespace Go.Proofs.Ytfhmfdmcdmcaiaa
open Go Go.RowKit Go.Sort
set_option maxHeartbeats 4000000
set_option maxRecDepth 100000

def OrderPost (w0 : World) (nm : List ByteArray) (needs : List (List ByteArray)) (e : Ending) (w' : World) : Prop :=
  Below w0.heap.size w0 w' ∧ ∃ vo, e = .returned (.tuple #[vo, iv (orderR nm needs).2.1, .int .i64 (orderR nm needs).2.2]) ∧ w'.ownsRow w0.heap.size 3 1 vo (orderR nm needs).1.length ((orderR nm needs).1.map iv)
theorem post_big {w0 : World} {nm : List ByteArray} {needs : List (List ByteArray)} (h : 8 < nm.length) : OrderPost w0 nm needs (.returned (.tuple #[.slice none 0 0, iv 0, .int .i64 12])) w0 := by
  unfold OrderPost orderR
  rw [if_pos h]
  exact ⟨Below.refl _ _, _, rfl, rfl, .inl ⟨rfl, rfl⟩⟩
theorem post_dup {w0 : World} {nm : List ByteArray} {needs : List (List ByteArray)} {i : Nat} (h : ¬ 8 < nm.length) (hd : dupAt nm = some i) : OrderPost w0 nm needs (.returned (.tuple #[.slice none 0 0, iv i, .int .i64 7])) w0 := by
  unfold OrderPost orderR
  rw [if_neg h, hd]
  exact ⟨Below.refl _ _, _, rfl, rfl, .inl ⟨rfl, rfl⟩⟩
theorem post_bad {w0 w' : World} {nm : List ByteArray} {needs : List (List ByteArray)} {i : Nat} (h : ¬ 8 < nm.length) (hd : dupAt nm = none) (hb : badE nm needs = some i) (hw : Below w0.heap.size w0 w') : OrderPost w0 nm needs (.returned (.tuple #[.slice none 0 0, iv i, .int .i64 6])) w' := by
  unfold OrderPost orderR
  rw [if_neg h, hd]
  simp only [hb]
  exact ⟨hw, _, rfl, rfl, .inl ⟨rfl, rfl⟩⟩
theorem post_cyc {w0 w' : World} {nm : List ByteArray} {needs : List (List ByteArray)} {i : Nat} (h : ¬ 8 < nm.length) (hd : dupAt nm = none) (hb : badE nm needs = none) (hc : cycAt nm.length (orderP nm (edgeRow nm needs)) = some i) (hw : Below w0.heap.size w0 w') : OrderPost w0 nm needs (.returned (.tuple #[.slice none 0 0, iv i, .int .i64 9])) w' := by
  unfold OrderPost orderR
  rw [if_neg h, hd]
  simp only [hb, hc]
  exact ⟨hw, _, rfl, rfl, .inl ⟨rfl, rfl⟩⟩
theorem post_ok {w0 w1 w' : World} {vo : Value} {nm : List ByteArray} {needs : List (List ByteArray)} (h : ¬ 8 < nm.length) (hd : dupAt nm = none) (hb : badE nm needs = none) (hc : cycAt nm.length (orderP nm (edgeRow nm needs)) = none) (hw : Below w0.heap.size w0 w') (h1 : w0.heap.size ≤ w1.heap.size) (ho : w'.ownsRow w1.heap.size 3 1 vo (orderP nm (edgeRow nm needs)).length ((orderP nm (edgeRow nm needs)).map iv)) : OrderPost w0 nm needs (.returned (.tuple #[vo, iv 0, .int .i64 0])) w' := by
  unfold OrderPost orderR
  rw [if_neg h, hd]
  simp only [hb, hc]
  refine ⟨hw, _, rfl, ho.1, ?_⟩
  rcases ho.2 with h2 | ⟨g, cap, cur, e, hB, h3⟩
  · exact .inl h2
  · exact .inr ⟨g, cap, cur, e, Nat.le_trans h1 hB, h3⟩

theorem order10 (w0 : World) (vn vd : Value) (nm : List ByteArray) (needs : List (List ByteArray)) (hn : StrRow w0 vn nm) (hd : NStr w0 vd needs) (hll : ∀ x ∈ needs, x.length ≤ 1000) (hnl : nm.length ≤ 1000000) :
    Calls Try.prog 10 #[vn, vd] w0 fun e w' => OrderPost w0 nm needs e w' := by
  by_cases h8 : 8 < nm.length
  · have H := Lib.hid (post_big (w0 := w0) (needs := needs) h8)
    obtain ⟨an, cn, rfl, hn1, hn2, _⟩ := hn
    have b1 : (8 : Int) < (nm.length : Int) := by omega
    go_enter Try.func10, Try.ntmps10
    go_wp2_with fail
    refine bodyPost_ret (v := .tuple #[.slice none 0 0, iv 0, .int .i64 12]) (by simp [results, Try.results10, go_sem]) rfl ?_
    exact H.out
  have HED := Lib.hid (edges18 w0 vn vd nm needs hn hd (by omega) hll)
  have HN := Lib.hid hn
  obtain ⟨an, cn, rfl, hn1, hn2, hn3⟩ := hn
  have HN3 := Lib.hid hn3
  have H8 := Lib.hid h8
  have b1 : (nm.length : Int) ≤ 8 := by omega
  have b2 : nm.length ≤ 8 := by omega
  clear hn3 hd hll h8
  go_enter Try.func10, Try.ntmps10
  go_wp2_with fail
  go_loopw [23] (fun iv23 wr => ∃ (i : Nat), i ≤ nm.length ∧ iv23 = iv i ∧ Hid (wr = w0) ∧ Hid (∀ k, k < i → Lib.containsS (nm.take k) (nm.getD k ByteArray.empty) = false)) (fun iv23 _ => nm.length - (intOf iv23).toNat)
  case atStart => exact ⟨0, by omega, rfl, Lib.hid rfl, Lib.hid (fun k hk => by omega)⟩
  case round =>
    obtain ⟨i, hi, rfl, HW, HB⟩ := hrel
    obtain rfl := HW.out
    by_cases hil : i < nm.length
    · have hi1 : (i : Int) < (nm.length : Int) := by omega
      rcases HN3.out with h0 | ⟨bn, on, rfl, hcn⟩
      · rw [h0] at hil; simp at hil
      obtain ⟨s, hs⟩ : ∃ s, nm[i]? = some s := ⟨_, List.getElem?_eq_getElem hil⟩
      have f0 := hcn i s hs
      obtain ⟨b, hb⟩ : ∃ b, Lib.containsS (nm.take i) s = b := ⟨_, rfl⟩
      have HH := Lib.hid (has17 (c := cn) hcn (Nat.le_of_lt hil) hnl s)
      rw [hb] at HH
      have HS := Lib.hid (show Lib.containsS (nm.take i) (nm.getD i ByteArray.empty) = b by
        rw [List.getD_eq_getElem?_getD, hs]; exact hb)
      have hic : i ≤ cn := by omega
      clear hb hs hcn
      cases b with
      | true =>
        have HD := Lib.hid (post_dup (w0 := wr) (needs := needs) H8.out (find_first hil HS.out HB.out))
        go_wp2_with (first | (go_at_call 17; refine HH.out.mono ?_; rintro e w6 ⟨rfl, hw6⟩; obtain rfl := hw6.symm))
        refine bodyPost_ret (v := .tuple #[.slice none 0 0, iv i, .int .i64 7]) (by simp [results, Try.results10, go_sem]) rfl ?_
        exact HD.out
      | false =>
        go_wp2_with (first | (go_at_call 17; refine HH.out.mono ?_; rintro e w6 ⟨rfl, hw6⟩; obtain rfl := hw6.symm))
        refine ⟨⟨i + 1, by omega, by go_num, by first | exact Lib.hid rfl | exact Lib.hid trivial, Lib.hid (fun k hk => ?_)⟩, by simp [intOf]; omega⟩
        by_cases e : k = i
        · rw [e]; exact HS.out
        · exact HB.out k (by omega)
    · obtain rfl : i = nm.length := by omega
      have HD := Lib.hid (show dupAt nm = none from find_none HB.out)
      clear HB hil
      cases hbe : badE nm needs with
      | some j =>
        have HBE := Lib.hid hbe
        have hE : Hid (Calls Try.prog 18 #[.slice an nm.length cn, vd] wr fun e w' => Below wr.heap.size wr w' ∧ e = .returned (.tuple #[.slice none 0 0, iv j])) := Lib.hid (HED.out.mono fun e w' h => by
          unfold EdgePost at h
          rw [hbe] at h
          exact h)
        have HPB := Lib.hid (fun w' hw => post_bad (w0 := wr) (w' := w') (needs := needs) H8.out HD.out hbe hw)
        have j1 : (0 : Int) ≤ (j : Int) := by omega
        clear hbe HED
        go_wp2_with (first | (go_at_call 18; refine hE.out.mono ?_; rintro e w1 ⟨hb1, rfl⟩; have HB1 := Lib.hid hb1; clear hb1))
        refine bodyPost_ret (v := .tuple #[.slice none 0 0, iv j, .int .i64 6]) (by simp [results, Try.results10, go_sem]) rfl ?_
        exact HPB.out _ HB1.out
      | none =>
        have HBE := Lib.hid hbe
        have hE : Hid (Calls Try.prog 18 #[.slice an nm.length cn, vd] wr fun e w' => Below wr.heap.size wr w' ∧ ∃ T c, e = .returned (.tuple #[.slice (some ⟨T, 0, none⟩) nm.length c, .int .i64 (-1)]) ∧ nm.length ≤ c ∧ c ≤ maxLen ∧ NInt w' (.slice (some ⟨T, 0, none⟩) nm.length c) ((List.range nm.length).map (edgeRow nm needs))) := Lib.hid (HED.out.mono fun e w' h => by
          unfold EdgePost at h
          rw [hbe] at h
          obtain ⟨h1, u, h2, h3⟩ := h
          obtain ⟨T, c, rfl, h4, h5⟩ := h3.shape
          rw [List.length_map, List.length_range] at h2 h3 h4
          exact ⟨h1, T, c, h2, h4, h5, h3⟩)
        have hmk := fun w => make26 w nm.length (by omega)
        clear hbe HED
        go_wp2_with (first | (go_at_call 18; refine hE.out.mono ?_; rintro e w1 ⟨hb1, T, cT, rfl, hT1, hT2, hn1⟩; have HB1 := Lib.hid hb1; have HNI := Lib.hid hn1; clear hb1 hn1))
        have HMS := Lib.hid (Mem.start w1 nm.length (.slice an nm.length cn) (by omega))
        obtain ⟨i9, hi9, hz90, hz91, hz92⟩ := info_parts info3
        have HAS : ∀ {w : World}, Hid (RowKit.Below w1.heap.size w1 w → StrRow w (.slice an nm.length cn) nm) := fun {w} => Lib.hid (fun hb => HN.out.below (HB1.out.trans (hb.mono HB1.out.size)))
        have HVB : Hid (0 < nm.length → ∀ b, (Value.slice an nm.length cn).ownBlock = some b → b < w1.heap.size) := Lib.hid (fun h0 b hb => by
          rcases HN3.out with e | ⟨bn, on, rfl, hcn⟩
          · rw [e] at h0; simp at h0
          · have : bn = b := by simpa [Value.ownBlock] using hb
            have h1 := World.block_lt_of_cell? wr _ (hcn 0 _ (List.getElem?_eq_getElem h0))
            have h2 := HB1.out.size
            simp at h1
            omega)
        have HER := Lib.hid (edge_rows nm needs HBE.out)
        have HTO : Hid (∀ i, i < nm.length → ∃ u, w1.cell? ⟨T, i, none⟩ = some u ∧ IntR w1 u (edgeRow nm needs i)) := Lib.hid (fun i hi => HNI.out.row i _ (by simp [hi]))
        have HAP := Lib.hid (apart_of HD.out)
        obtain ⟨E, hE0⟩ : ∃ E, edgeRow nm needs = E := ⟨_, rfl⟩
        have HE0 := Lib.hid hE0
        rw [hE0] at HER HTO
        clear hE0 HNI hE hmk hi
        clear HW
        go_loopw [52] (fun iv52 wr => ∃ (i : Nat) (h L : List Nat) (g : Option Nat), i ≤ nm.length ∧ iv52 = iv i ∧ Hid (Mem w1 nm.length (.slice an nm.length cn) wr g h L (.slice none 0 0) []) ∧ Hid (Inv0 nm E i h L) ∧ Hid (IsHeap nm h)) (fun iv52 _ => nm.length - (intOf iv52).toNat)
        case atStart => exact ⟨0, _, _, _, by omega, rfl, HMS, Lib.hid ⟨by simp, fun y => by simp, by simp, fun k hk => by omega⟩, Lib.hid (fun i h0 hi => by simp at hi)⟩
        case round =>
          obtain ⟨i, h, L, g, hi, rfl, HM, HI, HHP⟩ := hrel
          by_cases hil : i < nm.length
          · have hi1 : (i : Int) < (nm.length : Int) := by omega
            obtain ⟨u, hu, hus⟩ := HTO.out i hil
            obtain ⟨au, cu, rfl, hu1, hu2⟩ := hus.shape
            have c0 := (HM.out.bel.cell (World.block_lt_of_cell? w1 _ hu)).trans hu
            obtain ⟨m, hm⟩ : ∃ m, (E i).length = m := ⟨_, rfl⟩
            rw [hm] at c0 hu1
            obtain ⟨c1, c2⟩ := HM.out.lcell HI.out.len i hil
            obtain ⟨st1, st2, st3⟩ := HI.out.step hil hm
            have HS2 := Lib.hid st2
            have HS3 := Lib.hid st3
            have HM2 := Lib.hid (HM.out.setL i m)
            have c3 : (wr.setCell ⟨w1.heap.size, i, none⟩ (iv m)).cell? ⟨w1.heap.size, i, none⟩ = some (iv m) := by
              have := (HM2.out.lcell (by simpa using HI.out.len) i hil).1
              rw [getD_set_self (by rw [HI.out.len]; exact hil)] at this
              exact this
            clear hu hus hm st1 st2 st3
            by_cases hm0 : m = 0
            · subst hm0
              have HPU := Lib.hid (push19 HM2.out.heap (HAS.out HM2.out.bel) (HVB.out (by omega)) (fun x hx => by have := ((HI.out.hmem x).1 hx).1; omega) HHP.out (by have := HM2.out.bel.size; omega) (by have := len_le HI.out.hnd (n := nm.length) (fun x hx => by have := ((HI.out.hmem x).1 hx).1; omega); omega) i hil)
              go_wp2_with (first | (go_at_call 19; refine HPU.out.mono ?_; rintro e w6 ⟨⟨u6, rfl⟩, h6, hp6, hpm6, hh6⟩; obtain ⟨g6, hm6⟩ := HM2.out.heapop hp6; have HM6 := Lib.hid hm6; have HI6 := Lib.hid (HS3.out rfl h6 hpm6); have HH6 := Lib.hid hh6; clear hp6 hpm6 hh6 hm6))
              exact ⟨⟨i + 1, h6, _, g6, by omega, by go_num, HM6, HI6, HH6⟩, by simp [intOf]; omega⟩
            · have hm1 : ¬ ((m : Int) = 0) := by omega
              have HI6 := Lib.hid (HS2.out hm0)
              go_wp2_with fail
              exact ⟨⟨i + 1, h, _, g, by omega, by go_num, HM2, HI6, HHP⟩, by simp [intOf]; omega⟩
          · obtain rfl : i = nm.length := by omega
            have HI1 := Lib.hid HI.out.done
            clear HI hil
            go_wp2_with fail
            go_loopw [14] (fun v14 wr => ∃ (h L : List Nat) (g : Option Nat) (ao : Option Addr) (co : Nat) (out : List Nat), v14 = .slice ao out.length co ∧ Hid (Mem w1 nm.length (.slice an nm.length cn) wr g h L (.slice ao out.length co) out) ∧ Hid (Inv1 nm E out h L) ∧ Hid (IsHeap nm h)) (fun v14 _ => nm.length - lenV v14)
            case atStart => exact ⟨h, L, g, none, 0, [], rfl, HM, HI1, HHP⟩
            case round =>
              clear HM HI1 HHP
              obtain ⟨h, L, g, ao, co, out, rfl, HM, HI, HHP⟩ := hrel
              obtain ⟨q, hq⟩ : ∃ q, out.length = q := ⟨_, rfl⟩
              have HQ := Lib.hid hq
              rw [hq] at HM ⊢
              have hql := len_le HI.out.ond HI.out.olt
              rw [hq] at hql
              obtain ⟨z, hz⟩ : ∃ z, h.length = z := ⟨_, rfl⟩
              have HZ := Lib.hid hz
              have HLN := Lib.hid (len20 HM.out.heap)
              rw [hz] at HLN
              have hhl := len_le HI.out.hnd (n := nm.length) (fun x hx => ((HI.out.hmem x).1 hx).1)
              rw [hz] at hhl
              clear hq hz
              by_cases hz0 : 0 < z
              · have hz1 : (0 : Int) < (z : Int) := by omega
                have HPO := Lib.hid (pop21 HM.out.heap (HAS.out HM.out.bel) (HVB.out (by omega)) (fun x hx => ((HI.out.hmem x).1 hx).1) HHP.out (by rw [HZ.out]; omega) (by rw [HZ.out]; exact hz0))
                go_wp2_with (first | (go_at_call 20; refine HLN.out.mono ?_; rintro e w6 ⟨rfl, hw6⟩; obtain rfl := hw6.symm) | (go_at_call 21; refine HPO.out.mono ?_; rintro e w7 ⟨x, h1, rfl, hp7, hpm7, hh7, hmn7⟩; obtain ⟨g7, hm7⟩ := HM.out.heapop hp7; obtain ⟨hi7, hx7, hxo7, hl7, _⟩ := HI.out.pop hpm7; have hbs7 := HI.out.best HAP.out (hpm7.mem_iff.1 (by simp)) hmn7; have HM7 := Lib.hid hm7; have HI7 := Lib.hid hi7; have HH7 := Lib.hid hh7; have HX7 := Lib.hid (And.intro hx7 (And.intro hxo7 (And.intro hl7 hbs7))); have hty := assert_int w7 x; have HO7 := Lib.hid hm7.out; have HSZ7 := Lib.hid hm7.bel.size; clear hp7 hpm7 hh7 hmn7 hm7 hi7 hx7 hxo7 hl7 hbs7) | (at_builtin; have hO7 := HO7.out; rw [HQ.out] at hO7; refine wpList_append_lies _ rfl _ _ _ rfl w1.heap.size 3 i9 _ 1 8 Try.underlying26 hi9 hz90 hz91 hz92 rfl (by decide) _ q _ rfl (hO7.alloc _) ⟨w7.heap.size, 0, none⟩ 1 1 [iv x] rfl rfl (World.news_of_block (cs := #[iv x]) (t := 3) (fr := (0, 0)) (heap_alloc_new w7 _)) (by simp [Value.oneCell']) (by omega) (by unfold maxLen; omega) (by omega) (by have := HSZ7.out; simp; omega) (w7.heap.size + 1) (by simp) ?_; intro gg cap w2 hown2 hgrow hat hlt2; have hm8 := HM7.out.app ((Below.refl _ _).alloc (Nat.le_refl _) _) (by rw [HQ.out]; exact hown2) hgrow (by rcases hat with e | e; exact .inl e; exact .inr (by omega)) hlt2; rw [HQ.out] at hm8; have HM8 := Lib.hid hm8; clear hown2 hgrow hat hlt2 hm8 hO7))
                go_loopw [87] (fun v87 wr => ∃ (k : Nat) (h L : List Nat) (g : Option Nat), k ≤ nm.length ∧ v87 = iv k ∧ Hid (Mem w1 nm.length (.slice an nm.length cn) wr g h L (.slice (some ⟨gg, 0, none⟩) (q + 1) cap) (out ++ [x])) ∧ Hid (Inv2 nm E out x k h L) ∧ Hid (IsHeap nm h)) (fun v87 _ => nm.length - (intOf v87).toNat)
                case atStart => exact ⟨0, h1, L, g7, by omega, rfl, HM8, HI7, HH7⟩
                case round =>
                  clear HM8 HI7 HH7 HM HHP
                  obtain ⟨k, h, L, g, hk, rfl, HM, HK, HHP⟩ := hrel
                  by_cases hkl : k < nm.length
                  · have hk1 : (k : Int) < (nm.length : Int) := by omega
                    obtain ⟨u, hu, hus⟩ := HTO.out k hkl
                    have c0 := (HM.out.bel.cell (World.block_lt_of_cell? w1 _ hu)).trans hu
                    have hlt : ∀ y ∈ h, y < nm.length := fun y hy => ((HK.out.hmem y).1 hy).1
                    have hhl := len_le HK.out.hnd hlt
                    have HCT : ∀ {W : World}, Hid (RowKit.Below w1.heap.size w1 W → Calls Try.prog 22 #[u, .int .i64 x] W fun e w' => e = .returned (.bool ((E k).contains x)) ∧ w' = W) := fun {W} => Lib.hid (fun hb => has22 (hus.kept (fun b _ hl _ => hb.block b hl)) x)
                    obtain ⟨b, hb⟩ : ∃ b, (E k).contains (x : Int) = b := ⟨_, rfl⟩
                    simp only [hb] at HCT
                    have HBB := Lib.hid hb
                    have HCT2 := Lib.hid (HCT.out HM.out.bel)
                    clear hu hb HCT
                    cases b with
                    | false =>
                      have HK2 := Lib.hid (HK.out.skip HER.out HX7.out.2.1 (by have := HBB.out; simpa using this))
                      go_wp2_with (first | (go_at_call 22; refine HCT2.out.mono ?_; rintro e w6 ⟨rfl, hw6⟩; obtain rfl := hw6.symm))
                      exact ⟨⟨k + 1, h, L, g, by omega, by go_num, HM, HK2, HHP⟩, by simp [intOf]; omega⟩
                    | true =>
                      obtain ⟨m, hm⟩ : ∃ m, L.getD k 1 = m := ⟨_, rfl⟩
                      obtain ⟨m0, st1, st2, st3⟩ := HK.out.less HER.out hkl HX7.out.2.1 (by have := HBB.out; simpa using this) hm HI.out.odn HX7.out.2.2.1
                      obtain ⟨m1, rfl⟩ : ∃ m1, m = m1 + 1 := ⟨m - 1, by omega⟩
                      rw [Nat.add_sub_cancel] at st2 st3
                      obtain ⟨c1, c2⟩ := HM.out.lcell HK.out.len k hkl
                      rw [hm] at c1
                      have HM2 := Lib.hid (HM.out.setL k m1)
                      have c3 : (wr.setCell ⟨w1.heap.size, k, none⟩ (iv m1)).cell? ⟨w1.heap.size, k, none⟩ = some (iv m1) := by
                        have := (HM2.out.lcell (by simpa using HK.out.len) k hkl).1
                        rw [getD_set_self (by rw [HK.out.len]; exact hkl)] at this
                        exact this
                      have e1 : (m1 : Int) + 1 - 1 = (m1 : Int) := by omega
                      have c1' : wr.cell? ⟨w1.heap.size, k, none⟩ = some (.int .i64 ((m1 : Int) + 1)) := by rw [c1]; simp [iv]
                      have HS2 := Lib.hid st2
                      have HS3 := Lib.hid st3
                      have m1b : m1 ≤ maxLen := by
                        have h1 := HK.out.lac k hkl
                        rw [if_neg (by omega), hm] at h1
                        obtain ⟨_, _, _, h2, h3⟩ := hus.shape
                        have h4 : lacksP E out k ≤ (E k).length := List.length_filter_le _ _
                        omega
                      unfold maxLen at m1b
                      clear hm st1 st2 st3 c1 m0
                      by_cases hm0 : m1 = 0
                      · subst hm0
                        have HPU := Lib.hid (push19 HM2.out.heap (HAS.out HM2.out.bel) (HVB.out (by omega)) hlt HHP.out (by have := HM2.out.bel.size; omega) (by omega) k hkl)
                        clear hlt
                        go_wp2_with (first | (go_at_call 22; refine HCT2.out.mono ?_; rintro e w6 ⟨rfl, hw6⟩; obtain rfl := hw6.symm) | (go_at_call 19; refine HPU.out.mono ?_; rintro e w6 ⟨⟨u6, rfl⟩, h6, hp6, hpm6, hh6⟩; obtain ⟨g6, hm6⟩ := HM2.out.heapop hp6; have HM6 := Lib.hid hm6; have HI6 := Lib.hid (HS3.out (by first | rfl | trivial) h6 hpm6); have HH6 := Lib.hid hh6; clear hp6 hpm6 hh6 hm6))
                        exact ⟨⟨k + 1, h6, _, g6, by omega, by go_num, HM6, HI6, HH6⟩, by simp [intOf]; omega⟩
                      · have hm1 : ¬ ((m1 : Int) = 0) := by omega
                        have HI6 := Lib.hid (HS2.out hm0)
                        clear hlt
                        go_wp2_with (first | (go_at_call 22; refine HCT2.out.mono ?_; rintro e w6 ⟨rfl, hw6⟩; obtain rfl := hw6.symm))
                        exact ⟨⟨k + 1, h, _, g, by omega, by go_num, HM2, HI6, HHP⟩, by simp [intOf]; omega⟩
                  · obtain rfl : k = nm.length := by omega
                    obtain ⟨hI2, hol⟩ := HK.out.end_ HER.out HI.out HX7.out.1 HX7.out.2.1 HX7.out.2.2.1 HX7.out.2.2.2
                    have HI2 := Lib.hid hI2
                    rw [HQ.out] at hol
                    clear hI2 hkl
                    go_wp2_with fail
                    have hol2 : (out ++ [x]).length = q + 1 := by simp [HQ.out]
                    exact ⟨⟨h, L, g, some ⟨gg, 0, none⟩, cap, out ++ [x], by rw [hol2], Lib.hid (by rw [hol2]; exact HM.out), HI2, HHP⟩, by simp [lenV]; omega⟩
              · obtain rfl : z = 0 := by omega
                have hh0 : h = [] := List.length_eq_zero_iff.1 HZ.out
                subst hh0
                obtain ⟨f1, f2⟩ := HI.out.fin
                have HF1 := Lib.hid f1
                have HF2 := Lib.hid f2
                clear f1 f2 hz0
                obtain ⟨wD, hwD⟩ : ∃ wD : World, wD = wr := ⟨_, rfl⟩
                have HWD := Lib.hid hwD
                clear hwD
                go_wp2_with (first | (go_at_call 20; refine HLN.out.mono ?_; rintro e w6 ⟨rfl, hw6⟩; obtain rfl := hw6.symm))
                go_loopw [115] (fun v115 wr => ∃ (i : Nat), i ≤ nm.length ∧ v115 = iv i ∧ Hid (wr = wD) ∧ Hid (∀ k, k < i → L.getD k 1 = 0)) (fun v115 _ => nm.length - (intOf v115).toNat)
                case atStart => exact ⟨0, by omega, rfl, Lib.hid HWD.out.symm, Lib.hid (fun k hk => by omega)⟩
                case round =>
                  obtain ⟨i, hi, rfl, HW, HB⟩ := hrel
                  have hMD := HM.out
                  rw [← HWD.out] at hMD
                  have HMD := Lib.hid hMD
                  clear hMD HM HWD HLN
                  obtain rfl := HW.out
                  by_cases hil : i < nm.length
                  · have hi1 : (i : Int) < (nm.length : Int) := by omega
                    obtain ⟨c1, c2⟩ := HMD.out.lcell HI.out.len i hil
                    obtain ⟨m, hm⟩ : ∃ m, L.getD i 1 = m := ⟨_, rfl⟩
                    rw [hm] at c1
                    have HMM := Lib.hid hm
                    clear hm
                    by_cases hm0 : 0 < m
                    · have hm1 : (0 : Int) < (m : Int) := by omega
                      have HCY : Hid (cycAt nm.length (orderP nm (edgeRow nm needs)) = some i) := Lib.hid (find_first hil (by
                        rw [HE0.out, ← HF1.out]
                        have : i ∉ out := fun e => by
                          have := (HF2.out i hil).2 e
                          have := HMM.out
                          omega
                        simp [this]) (fun k hk => by
                        rw [HE0.out, ← HF1.out]
                        have := (HF2.out k (by omega)).1 (HB.out k hk)
                        simp [this]))
                      have HPC := Lib.hid (post_cyc H8.out HD.out HBE.out HCY.out (HB1.out.trans (HMD.out.bel.mono HB1.out.size)))
                      go_wp2_with fail
                      refine bodyPost_ret (v := .tuple #[.slice none 0 0, iv i, .int .i64 9]) (by simp [results, Try.results10, go_sem]) rfl ?_
                      exact HPC.out
                    · obtain rfl : m = 0 := by omega
                      go_wp2_with fail
                      refine ⟨⟨i + 1, by omega, by go_num, by first | exact Lib.hid rfl | exact Lib.hid trivial, Lib.hid (fun k hk => ?_)⟩, by simp [intOf]; omega⟩
                      by_cases e : k = i
                      · rw [e]; exact HMM.out
                      · exact HB.out k (by omega)
                  · obtain rfl : i = nm.length := by omega
                    have HCY : Hid (cycAt nm.length (orderP nm (edgeRow nm needs)) = none) := Lib.hid (find_none (fun k hk => by
                      rw [HE0.out, ← HF1.out]
                      have := (HF2.out k hk).1 (HB.out k hk)
                      simp [this]))
                    have HPC := Lib.hid (post_ok H8.out HD.out HBE.out HCY.out (HB1.out.trans (HMD.out.bel.mono HB1.out.size)) HB1.out.size (vo := .slice ao q co) (by
                      have := HMD.out.out
                      rw [HE0.out, ← HF1.out]
                      exact this))
                    go_wp2_with fail
                    refine bodyPost_ret (v := .tuple #[.slice ao q co, iv 0, .int .i64 0]) (by simp [results, Try.results10, go_sem]) rfl ?_
                    exact HPC.out
end Go.Proofs.Ytfhmfdmcdmcaiaa
