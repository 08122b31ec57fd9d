/- The walk of LexStrings. -/
import Derived.Test.YthmhbhlkbihdbaaD1
import Derived.Test.YthmhbhlkbihdbaaD2
import Derived.OpenShut
namespace Go.Proofs.Ythmhbhlkbihdbaa
open Go.RowKit LexP

/-- a slice of integers that came in: nil, or a row of cells -/
def IsRow (k : IntKind) (w : World) (a : Option Addr) (len cap : Nat) (zs : List Int) : Prop :=
  (a = none ∧ len = 0 ∧ cap = 0 ∧ zs = []) ∨
  ∃ x, a = some x ∧ len ≤ cap ∧ cap ≤ maxLen ∧ zs.length = cap ∧ (∀ i, i < zs.length → w.cell? (x.add i) = some (.int k (zs.getD i 0))) ∧ ∀ n ∈ zs, (Lit.int k n).wf = true

theorem spot_none {w : World} {x : Addr} {v : Value} (h : w.cell? x = some v) : x.spot = none := by
  unfold World.cell? at h
  split at h
  · split at h
    · cases h
    · rename_i hs; simpa using hs
  · cases h

theorem row_bytes {w : World} {a : Option Addr} {len cap : Nat} {zs : List Int} (h : IsRow .u8 w a len cap zs) :
    ∃ b : List UInt8, b.length = len ∧ len ≤ maxLen ∧ (len = 0 ∨ ∃ xb xo : Nat, a = some ⟨xb, xo, none⟩ ∧ ∀ i (hi : i < b.length), w.cell? ⟨xb, xo + i, none⟩ = some (.int .u8 (b[i].toNat : Int))) := by
  rcases h with ⟨_, rfl, _, _⟩ | ⟨x, rfl, hl, hm, hz, hc, hw⟩
  · exact ⟨[], rfl, by unfold maxLen; omega, .inl rfl⟩
  · refine ⟨(zs.take len).map fun n => UInt8.ofNat n.toNat, by simp; omega, by omega, ?_⟩
    by_cases h0 : len = 0
    · exact .inl h0
    refine .inr ⟨x.block, x.off, ?_, fun i hi => ?_⟩
    · have h00 := hc 0 (by omega)
      have h01 : x.add 0 = x := by simp [Addr.add]
      rw [h01] at h00
      have := spot_none h00
      cases x; simp_all
    have hi2 : i < len ∧ i < zs.length := by simp at hi; omega
    have hadd : (⟨x.block, x.off + i, none⟩ : Addr) = x.add i := by
      have h00 := hc 0 (by omega)
      have h01 : x.add 0 = x := by simp [Addr.add]
      rw [h01] at h00
      have := spot_none h00
      cases x
      unfold Addr.add
      split <;> simp_all
    rw [hadd, hc i hi2.2]
    have hb := bounds_u8 (hw (zs[i]'hi2.2) (List.getElem_mem _))
    have e : zs.getD i 0 = zs[i]'hi2.2 := by simp [List.getD, hi2.2]
    rw [e]
    have : ((UInt8.ofNat (zs[i]'hi2.2).toNat).toNat : Int) = zs[i]'hi2.2 := by
      rw [UInt8.toNat_ofNat']
      omega
    simp only [List.getElem_map, List.getElem_take]
    rw [this]

theorem two_bytes (w : World) (X Y : Int) : (convert 36 9 (.slice (some ⟨w.heap.size, 0, none⟩) 2 2)).run Try.prog (w.alloc (.cells #[.int .u8 X, .int .u8 Y] 5)) = .ok (.string ⟨[UInt8.ofNat X.toNat, UInt8.ofNat Y.toNat].toArray⟩) (w.alloc (.cells #[.int .u8 X, .int .u8 Y] 5)) := by
  refine run_convert_bytes_arg _ 36 5 Try.underlying36 Try.underlying5 w.heap.size 0 2 2 [X, Y] rfl ?_ 9 Try.underlying9
  intro i hi
  match i, hi with
  | 0, _ => rw [World.cell?_alloc_at _ _ _ _ rfl]; rfl
  | 1, _ => rw [World.cell?_alloc_at _ _ _ _ rfl]; rfl

theorem ba_append (l m : List UInt8) : (ByteArray.mk l.toArray) ++ (ByteArray.mk m.toArray) = ⟨(l ++ m).toArray⟩ := by
  apply ByteArray.ext
  simp

theorem heap_new2 (w : World) (o o' : Obj) : ((w.alloc o).alloc o').heap[w.heap.size + 1]? = some o' := by
  have := heap_alloc_new (w.alloc o) o'
  simpa using this

theorem take_snoc' (b : List UInt8) (k : Nat) (h : k < b.length) : b.take (k + 1) = b.take k ++ [b[k]] := by
  rw [List.take_succ_eq_append_getElem h]

theorem str_rel {len k B : Nat} {b : List UInt8} {c : UInt8} {S : List UInt8} {w w1 : World} {v : Value} (hk : k < len) (E : List UInt8) (W : UInt8) (hesc : esc1 c = E) (hwant : want1 c = W)
    (HS : S = 34 :: escL (b.take k)) (HT : b.take (k + 1) = b.take k ++ [c]) (hSl : S.length ≤ 1 + 2 * k)
    (own : w1.ownsRow B 5 1 v (k + 1) (((b.take k).map want1).map byteV ++ [.int .u8 W.toNat])) (hb : Below B w w1) :
    ∃ (k' : Nat) (S' : List UInt8), k' ≤ len ∧ Value.int .i64 ((k : Int) + 1) = .int .i64 k' ∧ Value.string (⟨S.toArray⟩ ++ ⟨E.toArray⟩) = .string ⟨S'.toArray⟩ ∧ S'.length ≤ 1 + 2 * k' ∧ Hid (S' = 34 :: escL (b.take k')) ∧
      w1.ownsRow B 5 1 v k' (((b.take k').map want1).map byteV) ∧ Below B w w1 := by
  have he := esc1_len c
  rw [hesc] at he
  refine ⟨k + 1, S ++ E, by omega, by go_num, by rw [ba_append], by simp; omega, ?_, ?_, hb⟩
  · show _ = _
    rw [HS, HT, escL_snoc, hesc]; simp
  · rw [HT, List.map_append, List.map_append, List.map_cons, List.map_nil, hwant]
    exact own

set_option maxRecDepth 100000 in
set_option maxHeartbeats 2000000 in
theorem LexStrings_any (a : Option Addr) (len cap : Nat) (zs : List Int) (w : World) (hr : IsRow .u8 w a len cap zs) : Calls Try.prog 7 #[.slice a len cap] w fun e w' => e = .returned (.bool true) ∧ Below w.heap.size w w' := by
  obtain ⟨b, hbl, hmx, hcells⟩ := row_bytes hr
  clear hr
  obtain ⟨i0, hi0, hz0, hz1, hz2⟩ := info_parts Try.info5
  unfold maxLen at hmx
  by_cases hlong : 200 < len
  · go_enter Try.func7, Try.ntmps7
    go_wp2_with (go_at_call 13; refine (awake_any _).mono ?_; rintro e w2 ⟨rfl, hb⟩)
    go_ret
    exact ⟨rfl, hb⟩
  have HL := Lib.hid hbl
  have HC := Lib.hid hcells
  clear hbl hcells
  go_enter Try.func7, Try.ntmps7
  go_wp2_with fail
  go_loopw [3, 4, 5] (fun sv bv i wr => ∃ (k : Nat) (S : List UInt8), k ≤ len ∧ i = .int .i64 k ∧ sv = .string ⟨S.toArray⟩ ∧ S.length ≤ 1 + 2 * k ∧ Hid (S = 34 :: escL (b.take k)) ∧
      wr.ownsRow w.heap.size 5 1 bv k (((b.take k).map want1).map byteV) ∧ Below w.heap.size w wr) (fun _ _ i _ => len - (intOf i).toNat)
  case atStart => exact ⟨0, [34], by omega, rfl, rfl, by simp, by simp [Hid, escL], by simpa using World.ownsRow_nil _ _ _ _, Below.refl _ _⟩
  case round =>
    obtain ⟨k, S, hk, rfl, rfl, hSl, HS, hown, hb⟩ := hrel
    have HB := Lib.hid hb
    have hsz := hb.size
    obtain ⟨ao, cp0, rfl⟩ := own_shape hown
    have HW := Lib.hid hown
    clear hb hown
    by_cases hlt : k < len
    · obtain ⟨xb, xo, rfl, hcell⟩ := HC.out.resolve_left (by omega)
      have hck := hcell k (by rw [HL.out]; exact hlt)
      have hxb := World.block_lt_of_cell? w _ hck
      have ck := (HB.out.cell (p := ⟨xb, xo + k, none⟩) hxb).trans hck
      have HT := Lib.hid (take_snoc' b k (by rw [HL.out]; exact hlt))
      generalize hcb : b[k]'(by rw [HL.out]; exact hlt) = c at *
      have hc255 : (c.toNat : Int) < 256 := by have := c.toNat_lt; omega
      have hc00 : 0 ≤ (c.toNat : Int) := by omega
      clear hcell hck hcb
      have hcv := fun X => one_byte wr X
      have hcv2 := fun X Y => two_bytes wr X Y
      by_cases e10 : ((c.toNat : Int) == 10) = true
      · go_wp2_with (at_builtin; refine wpList_append_lies _ rfl (.tmp 58) (.tmp 60) 36 rfl w.heap.size 5 i0 _ 1 1 Try.underlying36 hi0 hz0 hz1 hz2 rfl (by decide) _ k _ rfl (HW.out.alloc _) ⟨wr.heap.size, 0, none⟩ 1 1 [.int .u8 c.toNat] rfl rfl (World.news_of_block (cs := #[.int .u8 c.toNat]) (t := 5) (fr := (0, 0)) (heap_alloc_new wr _)) (by simp [Value.oneCell']) (by omega) (by unfold maxLen; omega) (by omega) (by simp; omega) (wr.heap.size + 1) (by simp) ?_; intro gg cp w1 hown1 hgrow hat hlt1; have HG : Hid ((World.alloc wr (.cells #[.int .u8 c.toNat] 5)).grownBy w1 (Value.slice ao k cp0).ownBlock) := hgrow; have HW1 := Lib.hid hown1; clear hown1 hgrow hat)
        exact ⟨str_rel hlt [92, 110] c (by unfold esc1; rw [if_pos e10]) (by unfold want1; rw [if_pos e10]) HS.out HT.out hSl HW1.out ((HB.out.alloc hsz _).grown HG.out (by simp; omega) (fun g hg => (HW.out.lt g hg).1)), by simp [intOf]; omega⟩
      have e10 : ((c.toNat : Int) == 10) = false := by simpa using e10
      by_cases eq : ((c.toNat : Int) == 34) = true
      · go_wp2_with (at_builtin; refine wpList_append_lies _ rfl (.tmp 58) (.tmp 60) 36 rfl w.heap.size 5 i0 _ 1 1 Try.underlying36 hi0 hz0 hz1 hz2 rfl (by decide) _ k _ rfl ((HW.out.alloc _).alloc _) ⟨(wr.heap.size + 1), 0, none⟩ 1 1 [.int .u8 c.toNat] rfl rfl (World.news_of_block (cs := #[.int .u8 c.toNat]) (t := 5) (fr := (0, 0)) (heap_new2 wr _ _)) (by simp [Value.oneCell']) (by omega) (by unfold maxLen; omega) (by omega) (by simp; omega) ((wr.heap.size + 1) + 1) (by simp) ?_; intro gg cp w1 hown1 hgrow hat hlt1; have HG : Hid ((World.alloc (wr.alloc (.cells #[.int .u8 92, .int .u8 c.toNat] 5)) (.cells #[.int .u8 c.toNat] 5)).grownBy w1 (Value.slice ao k cp0).ownBlock) := hgrow; have HW1 := Lib.hid hown1; clear hown1 hgrow hat)
        exact ⟨str_rel hlt [92, c] c (by unfold esc1; rw [if_neg (by rw [e10]; simp), if_pos (by rw [eq]; rfl)]) (by unfold want1; rw [if_neg (by rw [e10]; simp), if_pos (by rw [eq]; rfl)]) HS.out HT.out hSl HW1.out (((HB.out.alloc hsz _).alloc (by simp; omega) _).grown HG.out (by simp; omega) (fun g hg => (HW.out.lt g hg).1)), by simp [intOf]; omega⟩
      have eq : ((c.toNat : Int) == 34) = false := by simpa using eq
      by_cases e92 : ((c.toNat : Int) == 92) = true
      · go_wp2_with (at_builtin; refine wpList_append_lies _ rfl (.tmp 58) (.tmp 60) 36 rfl w.heap.size 5 i0 _ 1 1 Try.underlying36 hi0 hz0 hz1 hz2 rfl (by decide) _ k _ rfl ((HW.out.alloc _).alloc _) ⟨(wr.heap.size + 1), 0, none⟩ 1 1 [.int .u8 c.toNat] rfl rfl (World.news_of_block (cs := #[.int .u8 c.toNat]) (t := 5) (fr := (0, 0)) (heap_new2 wr _ _)) (by simp [Value.oneCell']) (by omega) (by unfold maxLen; omega) (by omega) (by simp; omega) ((wr.heap.size + 1) + 1) (by simp) ?_; intro gg cp w1 hown1 hgrow hat hlt1; have HG : Hid ((World.alloc (wr.alloc (.cells #[.int .u8 92, .int .u8 c.toNat] 5)) (.cells #[.int .u8 c.toNat] 5)).grownBy w1 (Value.slice ao k cp0).ownBlock) := hgrow; have HW1 := Lib.hid hown1; clear hown1 hgrow hat)
        exact ⟨str_rel hlt [92, c] c (by unfold esc1; rw [if_neg (by rw [e10]; simp), if_pos (by rw [e92]; simp)]) (by unfold want1; rw [if_neg (by rw [e10]; simp), if_pos (by rw [e92]; simp)]) HS.out HT.out hSl HW1.out (((HB.out.alloc hsz _).alloc (by simp; omega) _).grown HG.out (by simp; omega) (fun g hg => (HW.out.lt g hg).1)), by simp [intOf]; omega⟩
      have e92 : ((c.toNat : Int) == 92) = false := by simpa using e92
      by_cases elo : (c.toNat : Int) < 32
      · go_wp2_with (at_builtin; refine wpList_append_lies _ rfl (.tmp 58) (.tmp 60) 36 rfl w.heap.size 5 i0 _ 1 1 Try.underlying36 hi0 hz0 hz1 hz2 rfl (by decide) _ k _ rfl (HW.out.alloc _) ⟨wr.heap.size, 0, none⟩ 1 1 [.int .u8 120] rfl rfl (World.news_of_block (cs := #[.int .u8 120]) (t := 5) (fr := (0, 0)) (heap_alloc_new wr _)) (by simp [Value.oneCell']) (by omega) (by unfold maxLen; omega) (by omega) (by simp; omega) (wr.heap.size + 1) (by simp) ?_; intro gg cp w1 hown1 hgrow hat hlt1; have HG : Hid ((World.alloc wr (.cells #[.int .u8 120] 5)).grownBy w1 (Value.slice ao k cp0).ownBlock) := hgrow; have HW1 := Lib.hid hown1; clear hown1 hgrow hat)
        exact ⟨str_rel hlt [120] 120 (by unfold esc1; rw [if_neg (by rw [e10]; simp), if_neg (by rw [eq, e92]; simp), if_pos (by rw [decide_eq_true elo]; rfl)]) (by unfold want1; rw [if_neg (by rw [e10]; simp), if_neg (by rw [eq, e92]; simp), if_pos (by rw [decide_eq_true elo]; rfl)]) HS.out HT.out hSl HW1.out ((HB.out.alloc hsz _).grown HG.out (by simp; omega) (fun g hg => (HW.out.lt g hg).1)), by simp [intOf]; omega⟩
      by_cases ehi : 126 < (c.toNat : Int)
      · go_wp2_with (at_builtin; refine wpList_append_lies _ rfl (.tmp 58) (.tmp 60) 36 rfl w.heap.size 5 i0 _ 1 1 Try.underlying36 hi0 hz0 hz1 hz2 rfl (by decide) _ k _ rfl (HW.out.alloc _) ⟨wr.heap.size, 0, none⟩ 1 1 [.int .u8 120] rfl rfl (World.news_of_block (cs := #[.int .u8 120]) (t := 5) (fr := (0, 0)) (heap_alloc_new wr _)) (by simp [Value.oneCell']) (by omega) (by unfold maxLen; omega) (by omega) (by simp; omega) (wr.heap.size + 1) (by simp) ?_; intro gg cp w1 hown1 hgrow hat hlt1; have HG : Hid ((World.alloc wr (.cells #[.int .u8 120] 5)).grownBy w1 (Value.slice ao k cp0).ownBlock) := hgrow; have HW1 := Lib.hid hown1; clear hown1 hgrow hat)
        exact ⟨str_rel hlt [120] 120 (by unfold esc1; rw [if_neg (by rw [e10]; simp), if_neg (by rw [eq, e92]; simp), if_pos (by rw [decide_eq_true ehi]; simp)]) (by unfold want1; rw [if_neg (by rw [e10]; simp), if_neg (by rw [eq, e92]; simp), if_pos (by rw [decide_eq_true ehi]; simp)]) HS.out HT.out hSl HW1.out ((HB.out.alloc hsz _).grown HG.out (by simp; omega) (fun g hg => (HW.out.lt g hg).1)), by simp [intOf]; omega⟩
      go_wp2_with (at_builtin; refine wpList_append_lies _ rfl (.tmp 58) (.tmp 60) 36 rfl w.heap.size 5 i0 _ 1 1 Try.underlying36 hi0 hz0 hz1 hz2 rfl (by decide) _ k _ rfl ((HW.out.alloc _).alloc _) ⟨(wr.heap.size + 1), 0, none⟩ 1 1 [.int .u8 c.toNat] rfl rfl (World.news_of_block (cs := #[.int .u8 c.toNat]) (t := 5) (fr := (0, 0)) (heap_new2 wr _ _)) (by simp [Value.oneCell']) (by omega) (by unfold maxLen; omega) (by omega) (by simp; omega) ((wr.heap.size + 1) + 1) (by simp) ?_; intro gg cp w1 hown1 hgrow hat hlt1; have HG : Hid ((World.alloc (wr.alloc (.cells #[.int .u8 c.toNat] 5)) (.cells #[.int .u8 c.toNat] 5)).grownBy w1 (Value.slice ao k cp0).ownBlock) := hgrow; have HW1 := Lib.hid hown1; clear hown1 hgrow hat)
      exact ⟨str_rel hlt [c] c (by unfold esc1; rw [if_neg (by rw [e10]; simp), if_neg (by rw [eq, e92]; simp), if_neg (by rw [decide_eq_false elo, decide_eq_false ehi]; simp)]) (by unfold want1; rw [if_neg (by rw [e10]; simp), if_neg (by rw [eq, e92]; simp), if_neg (by rw [decide_eq_false elo, decide_eq_false ehi]; simp)]) HS.out HT.out hSl HW1.out (((HB.out.alloc hsz _).alloc (by simp; omega) _).grown HG.out (by simp; omega) (fun g hg => (HW.out.lt g hg).1)), by simp [intOf]; omega⟩
    · have hkl : k = len := by omega
      have HS2 := Lib.hid (show S = 34 :: escL b by rw [HS.out, List.take_of_length_le (by rw [HL.out]; omega)])
      have HW2 := Lib.hid (show wr.ownsRow w.heap.size 5 1 (.slice ao k cp0) (b.map want1).length ((b.map want1).map byteV) by
        have := HW.out
        rw [List.take_of_length_le (by rw [HL.out]; omega)] at this
        simpa [HL.out, hkl] using this)
      clear HS HW hkl
      by_cases hmany : 100 < len
      · have HX := Lib.hid (lex_string_many b (by rw [HL.out]; exact hmany) (by rw [HL.out]; omega))
        go_wp2_with fail
        refine (Lex_any _ _).mono ?_
        intro e w4 hq
        rw [show lexTop (ByteArray.mk S.toArray ++ ByteArray.mk #[34]).data.toList = lexTop' (34 :: escL b ++ [34]) by rw [ba_snoc, HS2.out]; rfl, HX.out] at hq
        obtain ⟨hb4, rfl⟩ := hq
        have HB4 := Lib.hid (HB.out.trans (hb4.mono hsz))
        clear hb4
        go_wp2_with (first | go_quiet (fail) | (go_at_call 12; refine (num_any _ _).mono ?_; rintro e w2 ⟨rfl, rfl⟩))
        go_ret
        exact ⟨rfl, HB4.out⟩
      · have HX := Lib.hid (lex_string b (by rw [HL.out]; omega))
        have HY := Lib.hid (lex_string_open b (by rw [HL.out]; omega))
        go_wp2_with fail
        refine (Lex_any _ _).mono ?_
        intro e w4 hq
        rw [show lexTop (ByteArray.mk S.toArray ++ ByteArray.mk #[34]).data.toList = lexTop' (34 :: escL b ++ [34]) by rw [ba_snoc, HS2.out]; rfl, HX.out] at hq
        obtain ⟨hb4, v, rfl, hown⟩ := hq
        obtain ⟨g, cap', hg, rfl, hc⟩ := TokRow.of_own hown (by simp)
        have hgl : g < w4.heap.size := by
          obtain ⟨g', cap', hv, _, hlt⟩ := hown.form (by simp)
          simp at hv
          rw [hv.1]; exact hlt
        have HC4 := Lib.hid hc
        have HB4 := Lib.hid hb4
        clear hb4 hown hc
        simp only [List.length_cons, List.length_nil, Nat.zero_add, Nat.reduceAdd]
        go_wp2_with fail
        refine (Lex_any _ _).mono ?_
        intro e w5 hq
        rw [show lexTop (ByteArray.mk S.toArray).data.toList = lexTop' (34 :: escL b) by rw [HS2.out]; rfl, HY.out] at hq
        obtain ⟨hb5, rfl⟩ := hq
        have c0 := (hb5.cell (p := ⟨g, 0, none⟩) hgl).trans (HC4.out 0 _ rfl)
        have c1 := (hb5.cell (p := ⟨g, 1, none⟩) hgl).trans (HC4.out 1 _ rfl)
        have c2 := (hb5.cell (p := ⟨g, 2, none⟩) hgl).trans (HC4.out 2 _ rfl)
        have c3 := (hb5.cell (p := ⟨g, 3, none⟩) hgl).trans (HC4.out 3 _ rfl)
        have hw5 := own_below (own_below HW2.out HB4.out) hb5
        have hcvw : ∀ m, (convert 36 9 (.slice ao k cp0)).run Try.prog (w5.drewN m) = .ok (.string ⟨(b.map want1).toArray⟩) (w5.drewN m) := fun m => conv_own (w := w5.drewN m) hw5
        have HB5 := Lib.hid (HB.out.trans ((HB4.out.trans (hb5.mono HB4.out.size)).mono hsz))
        clear hb5 hw5
        generalize (b.map want1) = bw at *
        go_wp2_with fail
        go_quiet ((go_at_call 12; exact Calls.quiet_of_same ((num_any _ _).mono fun _ _ ⟨a, b⟩ => ⟨a, b.symm⟩)))
        go_wp2_with fail
        go_ret
        exact ⟨rfl, below_drewN HB5.out _⟩
end Go.Proofs.Ythmhbhlkbihdbaa
