/- The walk of GraphRings. (printed by mkF2.py) -/
import Derived.Test.YtfhmfdmcdmcaiaaF1
import Derived.BigQuiet
import Derived.Lib.QuietBelow
namespace Go.Proofs.Ytfhmfdmcdmcaiaa
open Go Go.RowKit Go.Sort
set_option maxHeartbeats 4000000
set_option maxRecDepth 100000

theorem namesP_next (k f i : Nat) : namesP k f (i + 1) = namesP k f i ++ [wd ((i + f) % k)] := by unfold namesP; rw [List.range_succ, List.map_append]; rfl
theorem ringP_next (k f i : Nat) : ringP k f (i + 1) = ringP k f i ++ [[wd ((i + f + 1) % k)]] := by unfold ringP; rw [List.range_succ, List.map_append]; rfl
theorem chainP_next (k f i : Nat) : chainP k f (i + 1) = chainP k f i ++ [if (i + f) % k = k - 1 then [] else [wd ((i + f + 1) % k)]] := by unfold chainP; rw [List.range_succ, List.map_append]; rfl
theorem len_names (k f i : Nat) : (namesP k f i).length = i := by simp [namesP]
theorem len_ring (k f i : Nat) : (ringP k f i).length = i := by simp [ringP]
theorem len_chain (k f i : Nat) : (chainP k f i).length = i := by simp [chainP]
theorem namesP_mod (k f i : Nat) : namesP k (f % k) i = namesP k f i := by unfold namesP; congr 1; funext j; rw [Nat.add_mod_mod]
theorem ringP_mod (k f i : Nat) : ringP k (f % k) i = ringP k f i := by
  unfold ringP; congr 1; funext j
  rw [show j + f % k + 1 = j + 1 + f % k by omega, Nat.add_mod_mod, show j + 1 + f = j + f + 1 by omega]
theorem chainP_mod (k f i : Nat) : chainP k (f % k) i = chainP k f i := by
  unfold chainP; congr 1; funext j
  rw [show j + f % k + 1 = j + 1 + f % k by omega, Nat.add_mod_mod, Nat.add_mod_mod, show j + 1 + f = j + f + 1 by omega]
theorem rings_at {k : Nat} (f : Nat) (h1 : 0 < k) (h2 : k ≤ 8) : orderR (namesP k f k) (ringP k f k) = ([], 0, 9) ∧ (orderR (namesP k f k) (chainP k f k)).2.2 = 0 ∧ (orderR (namesP k f k) (chainP k f k)).1.length = k ∧
    ∀ i, i < k → (namesP k f k)[(orderR (namesP k f k) (chainP k f k)).1.getD i 0]?.getD ByteArray.empty = wd (k - 1 - i) ∧ (orderR (namesP k f k) (chainP k f k)).1.getD i 0 < k := by
  have h := rings_plain h1 h2 (Nat.mod_lt f h1)
  rw [namesP_mod, ringP_mod, chainP_mod] at h
  exact h
theorem IntR.cellF {w : World} {a : Option Addr} {n c : Nat} {l : List Nat} (h : IntR w (.slice a n c) (l.map Int.ofNat)) (i x : Nat) (hx : l[i]? = some x) : ∃ b, a = some ⟨b, 0, none⟩ ∧ w.cell? ⟨b, i, none⟩ = some (iv x) := by
  obtain ⟨a', c', h1, h2, h3, h4⟩ := h
  simp only [Value.slice.injEq] at h1
  obtain ⟨rfl, _, rfl⟩ := h1
  rcases h4 with h4 | ⟨b, cur, rfl, hg, hc⟩
  · have : l = [] := by simpa using h4
    rw [this] at hx; simp at hx
  · exact ⟨b, rfl, cell_of hg (hc i (x : Int) (by rw [List.getElem?_map, hx]; rfl))⟩
theorem GraphRings_any (x y : Int) (w0 : World) (hx : (Lit.int .u8 x).wf = true) (hy : (Lit.int .u8 y).wf = true) :
    Calls Try.prog 6 #[.int .u8 x, .int .u8 y] w0 fun e w' => e = .returned (.bool true) ∧ Below w0.heap.size w0 w' := by
  have hx1 : 0 ≤ x ∧ x < 256 := by
    unfold Lit.wf at hx
    simp [IntKind.min, IntKind.max, IntKind.bits, IntKind.signed] at hx
    omega
  have hy1 : 0 ≤ y ∧ y < 256 := by
    unfold Lit.wf at hy
    simp [IntKind.min, IntKind.max, IntKind.bits, IntKind.signed] at hy
    omega
  obtain ⟨a, rfl⟩ : ∃ a : Nat, x = (a : Int) := ⟨x.toNat, by omega⟩
  obtain ⟨f, rfl⟩ : ∃ f : Nat, y = (f : Int) := ⟨y.toNat, by omega⟩
  have ha : a < 256 := by omega
  have hf : f < 256 := by omega
  obtain ⟨k, hk⟩ : ∃ k : Nat, 1 + a % 8 = k := ⟨_, rfl⟩
  have hk0 : 0 < k := by omega
  have hk8 : k ≤ 8 := by omega
  have ek : 1 + (a : Int) % 8 = (k : Int) := by omega
  obtain ⟨k1, hk1⟩ : ∃ k1 : Nat, k = k1 + 1 := ⟨k - 1, by omega⟩
  have ek1 : (k : Int) - 1 = (k1 : Int) := by omega
  have hkz : ¬ (k : Int) = 0 := by omega
  have HRP := Lib.hid (rings_at f hk0 hk8)
  obtain ⟨j9, hj9, hz90, hz91, hz92⟩ := info_parts info9
  obtain ⟨j2i, hj2i, hz20, hz21, hz22⟩ := info_parts info22
  have HK := Lib.hid hk1
  clear hx hy hx1 hy1 hk hk1
  go_enter Try.func6, Try.ntmps6
  go_wp2_with fail
  clear ek
  go_loopw [6, 7, 8, 9] (fun v6 v7 v8 v9 wr => ∃ (i : Nat) (an ar ac : Option Addr) (cn cr cc : Nat), i ≤ k ∧ v6 = .slice an i cn ∧ v7 = .slice ar i cr ∧ v8 = .slice ac i cc ∧ v9 = iv i ∧ Hid (RInv w0 wr (.slice an i cn) (.slice ar i cr) (.slice ac i cc) (namesP k f i) (ringP k f i) (chainP k f i))) (fun _ _ _ v9 _ => k - (intOf v9).toNat)
  case atStart => exact ⟨0, none, none, none, 0, 0, 0, by omega, rfl, rfl, rfl, rfl, Lib.hid (RInv.start w0)⟩
  case round =>
    obtain ⟨i, an, ar, ac, cn, cr, cc, hi, rfl, rfl, rfl, rfl, HR⟩ := hrel
    by_cases hil : i < k
    · have hi1 : (i : Int) < (k : Int) := by omega
      obtain ⟨j1, hj1e⟩ : ∃ j, (i + f) % k = j := ⟨_, rfl⟩
      obtain ⟨j2, hj2e⟩ : ∃ j, (i + f + 1) % k = j := ⟨_, rfl⟩
      have hj1 : j1 < 8 := by have := Nat.mod_lt (i + f) hk0; omega
      have hj2 : j2 < 8 := by have := Nat.mod_lt (i + f + 1) hk0; omega
      have ej1 : ((i : Int) + (f : Int)) % (k : Int) = (j1 : Int) := by rw [← hj1e]; simp
      have ej2 : ((i : Int) + (f : Int) + 1) % (k : Int) = (j2 : Int) := by rw [← hj2e]; simp
      have HN := Lib.hid (namesP_next k f i)
      have HG := Lib.hid (ringP_next k f i)
      have HC := Lib.hid (chainP_next k f i)
      rw [hj1e] at HN HC
      rw [hj2e] at HG HC
      have F1 := Lib.hid trivial
      clear hj1e hj2e
      by_cases hjk : j1 = k1
      · have hjk1 : ((j1 : Int) == (k1 : Int)) = true := by simp [hjk]
        have HC2 : Hid (chainP k f (i + 1) = chainP k f i ++ [[]]) := Lib.hid (by rw [HC.out, if_pos (by have := HK.out; omega)])
        subst hjk
        clear HC
        go_wp2_with (first | (have z := F1; go_at_call 14; refine (word14 _ j1 hj1).mono ?_; rintro e w1 ⟨rfl, hb1⟩; have hr1 := HR.out.any hb1; have R1 := Lib.hid hr1; have N1 := Lib.hid hr1.nam; have S1 := Lib.hid hr1.bel.size; clear hb1 hr1 z F1; have F2 := Lib.hid trivial) | (have z := F2; at_builtin; have hn1 := N1.out; rw [len_names] at hn1; refine wpList_append_lies _ rfl _ _ _ rfl w0.heap.size 9 j9 _ 1 16 Try.underlying22 hj9 hz90 hz91 hz92 rfl (by decide) _ i _ rfl (hn1.alloc _) ⟨w1.heap.size, 0, none⟩ 1 1 [.string (wd j1)] rfl rfl (World.news_of_block (cs := #[.string (wd j1)]) (t := 9) (fr := (0, 0)) (heap_alloc_new w1 _)) (by simp [Value.oneCell']) (by omega) (by unfold maxLen; omega) (by omega) (by have := S1.out; simp; omega) (w1.heap.size + 1) (by simp) ?_; intro gg1 cap1 w2 hown2 hgrow hat hlt2; have hr2 := R1.out.name ((Below.refl _ _).alloc (Nat.le_refl _) _) (by rw [len_names]; exact hown2) hgrow (by rcases hat with e | e; exact .inl e; exact .inr (by omega)); rw [len_names] at hr2; have R2 := Lib.hid hr2; clear hown2 hgrow hat hlt2 hr2 hn1 z F2; have F3 := Lib.hid trivial) | (have z := F3; go_at_call 14; refine (word14 _ j2 hj2).mono ?_; rintro e w3 ⟨rfl, hb3⟩; have hr3 := R2.out.any hb3; have R3 := Lib.hid hr3; have S3 := Lib.hid hr3.bel.size; clear hb3 hr3 z F3; have F4 := Lib.hid trivial) | (have z := F4; at_builtin; obtain ⟨us, u0, u1, u2⟩ := R3.out.rin; have u1' := u1; rw [len_ring] at u1'; refine wpList_append_lies _ rfl _ _ _ rfl w0.heap.size 22 j2i _ 1 24 Try.underlying23 hj2i hz20 hz21 hz22 rfl (by decide) _ i _ rfl (own_below u1' (((Below.refl _ _).alloc (Nat.le_refl _) _).alloc (by simp) _)) ⟨w3.heap.size + 1, 0, none⟩ 1 1 [(.slice (some ⟨w3.heap.size, 0, none⟩) 1 1)] rfl rfl (World.news_of_block (cs := #[(.slice (some ⟨w3.heap.size, 0, none⟩) 1 1)]) (t := 22) (fr := (0, 0)) (by have := heap_alloc_new (w3.alloc (.cells #[.string (wd j2)] 9)) (.cells #[(.slice (some ⟨w3.heap.size, 0, none⟩) 1 1)] 22); rw [World.size_alloc] at this; exact this)) (by simp [Value.oneCell']) (by omega) (by unfold maxLen; omega) (by omega) (by have := S3.out; simp; omega) _ rfl ?_; intro gg2 cap2 w4 hown2 hgrow hat hlt2; have hr2 := R3.out.ringA (((Below.refl _ _).alloc (Nat.le_refl _) _).alloc (by simp) _) u0 u2 ((R3.out.new (wd j2)).kept (fun b cur hl hs hc => ⟨Below.heap_alloc _ _ _ hl, hs⟩)) (by rw [len_ring]; exact hown2) hgrow (by rcases hat with e | e; exact .inl e; exact .inr (by rw [e]; simp <;> omega)); rw [len_ring] at hr2; have R4 := Lib.hid hr2; have S4 := Lib.hid hr2.bel.size; clear hown2 hgrow hat hlt2 hr2 u0 u1 u2 u1' z F4; have F5 := Lib.hid trivial) | (have z := F5; at_builtin; obtain ⟨us, u0, u1, u2⟩ := R4.out.chn; have u1' := u1; rw [len_chain] at u1'; refine wpList_append_lies _ rfl _ _ _ rfl w0.heap.size 22 j2i _ 1 24 Try.underlying23 hj2i hz20 hz21 hz22 rfl (by decide) _ i _ rfl (own_below u1' ((Below.refl _ _).alloc (Nat.le_refl _) _)) ⟨w4.heap.size, 0, none⟩ 1 1 [(.slice none 0 0)] rfl rfl (World.news_of_block (cs := #[(.slice none 0 0)]) (t := 22) (fr := (0, 0)) (heap_alloc_new w4 _)) (by simp [Value.oneCell']) (by omega) (by unfold maxLen; omega) (by omega) (by have := S4.out; simp; omega) _ rfl ?_; intro gg3 cap3 w5 hown2 hgrow hat hlt2; have hr2 := R4.out.chainA ((Below.refl _ _).alloc (Nat.le_refl _) _) u0 u2 (show StrS _ _ (.slice none 0 0) [] from ⟨none, 0, rfl, Nat.le_refl _, by unfold maxLen; omega, .inl rfl⟩) (by rw [len_chain]; exact hown2) hgrow (by rcases hat with e | e; exact .inl e; exact .inr (by rw [e]; simp <;> omega)); rw [len_chain] at hr2; have R5 := Lib.hid hr2; clear hown2 hgrow hat hlt2 hr2 u0 u1 u2 u1' z F5; have F6 := Lib.hid trivial))
        exact ⟨⟨i + 1, _, _, _, _, _, _, by omega, rfl, rfl, rfl, by go_num, Lib.hid (by rw [HN.out, HG.out, HC2.out]; exact R5.out)⟩, by simp [intOf]; omega⟩
      · have hjk1 : ¬ ((j1 : Int) = (k1 : Int)) := by omega
        have HC2 : Hid (chainP k f (i + 1) = chainP k f i ++ [[wd j2]]) := Lib.hid (by rw [HC.out, if_neg (by have := HK.out; omega)])
        clear HC
        go_wp2_with (first | (have z := F1; go_at_call 14; refine (word14 _ j1 hj1).mono ?_; rintro e w1 ⟨rfl, hb1⟩; have hr1 := HR.out.any hb1; have R1 := Lib.hid hr1; have N1 := Lib.hid hr1.nam; have S1 := Lib.hid hr1.bel.size; clear hb1 hr1 z F1; have F2 := Lib.hid trivial) | (have z := F2; at_builtin; have hn1 := N1.out; rw [len_names] at hn1; refine wpList_append_lies _ rfl _ _ _ rfl w0.heap.size 9 j9 _ 1 16 Try.underlying22 hj9 hz90 hz91 hz92 rfl (by decide) _ i _ rfl (hn1.alloc _) ⟨w1.heap.size, 0, none⟩ 1 1 [.string (wd j1)] rfl rfl (World.news_of_block (cs := #[.string (wd j1)]) (t := 9) (fr := (0, 0)) (heap_alloc_new w1 _)) (by simp [Value.oneCell']) (by omega) (by unfold maxLen; omega) (by omega) (by have := S1.out; simp; omega) (w1.heap.size + 1) (by simp) ?_; intro gg1 cap1 w2 hown2 hgrow hat hlt2; have hr2 := R1.out.name ((Below.refl _ _).alloc (Nat.le_refl _) _) (by rw [len_names]; exact hown2) hgrow (by rcases hat with e | e; exact .inl e; exact .inr (by omega)); rw [len_names] at hr2; have R2 := Lib.hid hr2; clear hown2 hgrow hat hlt2 hr2 hn1 z F2; have F3 := Lib.hid trivial) | (have z := F3; go_at_call 14; refine (word14 _ j2 hj2).mono ?_; rintro e w3 ⟨rfl, hb3⟩; have hr3 := R2.out.any hb3; have R3 := Lib.hid hr3; have S3 := Lib.hid hr3.bel.size; clear hb3 hr3 z F3; have F4 := Lib.hid trivial) | (have z := F4; at_builtin; obtain ⟨us, u0, u1, u2⟩ := R3.out.rin; have u1' := u1; rw [len_ring] at u1'; refine wpList_append_lies _ rfl _ _ _ rfl w0.heap.size 22 j2i _ 1 24 Try.underlying23 hj2i hz20 hz21 hz22 rfl (by decide) _ i _ rfl (own_below u1' (((Below.refl _ _).alloc (Nat.le_refl _) _).alloc (by simp) _)) ⟨w3.heap.size + 1, 0, none⟩ 1 1 [(.slice (some ⟨w3.heap.size, 0, none⟩) 1 1)] rfl rfl (World.news_of_block (cs := #[(.slice (some ⟨w3.heap.size, 0, none⟩) 1 1)]) (t := 22) (fr := (0, 0)) (by have := heap_alloc_new (w3.alloc (.cells #[.string (wd j2)] 9)) (.cells #[(.slice (some ⟨w3.heap.size, 0, none⟩) 1 1)] 22); rw [World.size_alloc] at this; exact this)) (by simp [Value.oneCell']) (by omega) (by unfold maxLen; omega) (by omega) (by have := S3.out; simp; omega) _ rfl ?_; intro gg2 cap2 w4 hown2 hgrow hat hlt2; have hr2 := R3.out.ringA (((Below.refl _ _).alloc (Nat.le_refl _) _).alloc (by simp) _) u0 u2 ((R3.out.new (wd j2)).kept (fun b cur hl hs hc => ⟨Below.heap_alloc _ _ _ hl, hs⟩)) (by rw [len_ring]; exact hown2) hgrow (by rcases hat with e | e; exact .inl e; exact .inr (by rw [e]; simp <;> omega)); rw [len_ring] at hr2; have R4 := Lib.hid hr2; have S4 := Lib.hid hr2.bel.size; clear hown2 hgrow hat hlt2 hr2 u0 u1 u2 u1' z F4; have F5 := Lib.hid trivial) | (have z := F5; go_at_call 14; refine (word14 _ j2 hj2).mono ?_; rintro e w5 ⟨rfl, hb5⟩; have hr5 := R4.out.any hb5; have R5 := Lib.hid hr5; have S5 := Lib.hid hr5.bel.size; clear hb5 hr5 z F5; have F6 := Lib.hid trivial) | (have z := F6; at_builtin; obtain ⟨us, u0, u1, u2⟩ := R5.out.chn; have u1' := u1; rw [len_chain] at u1'; refine wpList_append_lies _ rfl _ _ _ rfl w0.heap.size 22 j2i _ 1 24 Try.underlying23 hj2i hz20 hz21 hz22 rfl (by decide) _ i _ rfl (own_below u1' (((Below.refl _ _).alloc (Nat.le_refl _) _).alloc (by simp) _)) ⟨w5.heap.size + 1, 0, none⟩ 1 1 [(.slice (some ⟨w5.heap.size, 0, none⟩) 1 1)] rfl rfl (World.news_of_block (cs := #[(.slice (some ⟨w5.heap.size, 0, none⟩) 1 1)]) (t := 22) (fr := (0, 0)) (by have := heap_alloc_new (w5.alloc (.cells #[.string (wd j2)] 9)) (.cells #[(.slice (some ⟨w5.heap.size, 0, none⟩) 1 1)] 22); rw [World.size_alloc] at this; exact this)) (by simp [Value.oneCell']) (by omega) (by unfold maxLen; omega) (by omega) (by have := S5.out; simp; omega) _ rfl ?_; intro gg3 cap3 w6 hown2 hgrow hat hlt2; have hr2 := R5.out.chainA (((Below.refl _ _).alloc (Nat.le_refl _) _).alloc (by simp) _) u0 u2 ((R5.out.new (wd j2)).kept (fun b cur hl hs hc => ⟨Below.heap_alloc _ _ _ hl, hs⟩)) (by rw [len_chain]; exact hown2) hgrow (by rcases hat with e | e; exact .inl e; exact .inr (by rw [e]; simp <;> omega)); rw [len_chain] at hr2; have R6 := Lib.hid hr2; clear hown2 hgrow hat hlt2 hr2 u0 u1 u2 u1' z F6; have F7 := Lib.hid trivial))
        exact ⟨⟨i + 1, _, _, _, _, _, _, by omega, rfl, rfl, rfl, by go_num, Lib.hid (by rw [HN.out, HG.out, HC2.out]; exact R6.out)⟩, by simp [intOf]; omega⟩
    · obtain rfl : i = k := by omega
      clear hil
      have hstr : ∀ (w : World), Below wr.heap.size wr w → StrRow w (.slice an i cn) (namesP i f i) := fun w hb => (StrR.own (HR.out.any hb).nam).str
      have HST := Lib.hid hstr
      obtain ⟨p1, p2, p3, p4⟩ := HRP.out
      have HO1 := Lib.hid (order10 wr (.slice an i cn) (.slice ar i cr) (namesP i f i) (ringP i f i) (hstr _ (Below.refl _ _)) HR.out.rin.str (fun x hx => by
        unfold ringP at hx
        obtain ⟨j, _, rfl⟩ := List.mem_map.1 hx
        simp) (by rw [len_names]; omega))
      have HO2 := Lib.hid (fun (w1 : World) (hb : Below wr.heap.size wr w1) => order10 w1 (.slice an i cn) (.slice ac i cc) (namesP i f i) (chainP i f i) (hstr _ hb) (HR.out.any hb).chn.str (fun x hx => by
        unfold chainP at hx
        obtain ⟨j, _, rfl⟩ := List.mem_map.1 hx
        split <;> simp) (by rw [len_names]; omega))
      unfold OrderPost at HO1 HO2
      rw [p1] at HO1
      generalize orderR (namesP i f i) (chainP i f i) = r at HO2 p2 p3 p4
      obtain ⟨out, p, er⟩ := r
      dsimp only at HO1 HO2 p2 p3 p4
      subst p2
      rw [p3] at HO2
      have HP4 := Lib.hid p4
      have HP3 := Lib.hid p3
      have HBE := Lib.hid HR.out.bel
      clear hstr p1 p3 p4 HRP
      go_wp2_with (first | (go_at_call 10; first | (refine HO1.out.mono ?_; rintro e w1 ⟨hb1, vo, rfl, ho1⟩; have HB1 := Lib.hid hb1; have HI1 := Lib.hid (ints_iv ho1); obtain ⟨ao, co, rfl, _, _⟩ := HI1.out.shape; clear hb1 ho1 HO1) | (refine (HO2.out w1 HB1.out).mono ?_; rintro e w2 ⟨hb2, vo2, rfl, ho2⟩; have HB2 := Lib.hid hb2; have HI2 := Lib.hid (ints_iv (l := out) (by rw [HP3.out]; exact ho2)); obtain ⟨ao2, co2, rfl, _, _⟩ := HI2.out.shape; rw [List.length_map, HP3.out] at HI2; rw [List.length_map, HP3.out]; clear hb2 ho2)) | (go_at_call 13; refine (num13 _ _).mono ?_; rintro e w6 ⟨rfl, hw6⟩; obtain rfl := hw6.symm))
      have HB12 := Lib.hid (HB1.out.trans (HB2.out.mono HB1.out.size))
      have HS2 := Lib.hid (HST.out w2 HB12.out)
      go_loopw [16] (fun v16 wq => ∃ (j : Nat), j ≤ i ∧ v16 = iv j ∧ Hid (Below w2.heap.size w2 wq)) (fun v16 _ => i - (intOf v16).toNat)
      case atStart => exact ⟨0, by omega, rfl, Lib.hid (Below.refl _ _)⟩
      case round =>
        obtain ⟨j, hj, rfl, HW⟩ := hrel
        by_cases hjl : j < i
        · have hj1 : (j : Int) < (i : Int) := by omega
          obtain ⟨x, hx⟩ : ∃ x, out[j]? = some x := ⟨_, List.getElem?_eq_getElem (by rw [HP3.out]; exact hjl)⟩
          obtain ⟨q1, q2⟩ := HP4.out j hjl
          have hxe : out.getD j 0 = x := by rw [List.getD_eq_getElem?_getD, hx]; rfl
          rw [hxe] at q1 q2
          have hxi : (x : Int) < (i : Int) := by omega
          obtain ⟨ba, rfl, c0⟩ := (HI2.out.at HW.out).cellF j x hx
          obtain ⟨s, hs⟩ : ∃ s, (namesP i f i)[x]? = some s := ⟨_, List.getElem?_eq_getElem (by rw [len_names]; exact q2)⟩
          rw [hs] at q1
          have q1 : s = wd (i - 1 - j) := q1
          obtain ⟨a', c', e1, _, _, e2⟩ := (HS2.out.below HW.out)
          simp only [Value.slice.injEq] at e1
          obtain ⟨rfl, e1b, rfl⟩ := e1
          clear e1b
          rcases e2 with e2 | ⟨bn, on, rfl, e3⟩
          · rw [e2] at hs; simp at hs
          have c1 := e3 x s hs
          obtain ⟨d, hd⟩ : ∃ d, i - 1 - j = d := ⟨_, rfl⟩
          have ed : (i : Int) - 1 - (j : Int) = (d : Int) := by omega
          have hd8 : d < 8 := by omega
          rw [hd] at q1
          subst q1
          have r0 := cell_regrown c0
          have r1 := cell_regrown c1
          have cs14 := fun dd os => Calls.regrown_of (word14 (grow (redrawn wr dd) os) d hd8)
          have hbne : ((wd d).toList != (wd d).toList) = false := by simp
          clear hx hxe q2 hs c0 c1 e3 hd
          have ek1' : (i : Int) - 1 = (k1 : Int) := ek1
          rw [ek1'] at ed
          go_upto_region 19 with fail
          refine wp_region_quiet_below (by kernel_rfl) (by kernel_rfl) ?_
          iterate 13 go_big_quiet_step (exact cs14 _ _)
          refine wpQuiet_nil ?_; intro _ hw'; obtain ⟨⟨dq, osq⟩, hw''⟩ := hw'; subst hw''
          go_wp2_with fail
          exact ⟨⟨j + 1, by omega, by go_num, Lib.hid (HW.out.trans ((below_regrown _ dq osq).mono HW.out.size))⟩, by simp [intOf]; omega⟩
        · obtain rfl : j = i := by omega
          clear hjl hj hi ek1 hkz ha hf
          go_wp2_with (first | (go_at_call 9; refine (awake9 _).mono ?_; rintro e w7 ⟨rfl, hb7⟩; have HB7 := Lib.hid hb7; clear hb7))
          go_ret
          have s0 := HBE.out.size
          have s1 := HB12.out.size
          have s2 := HW.out.size
          exact ⟨rfl, HBE.out.trans ((HB12.out.mono s0).trans ((HW.out.mono (by omega)).trans (HB7.out.mono (by omega))))⟩
end Go.Proofs.Ytfhmfdmcdmcaiaa
