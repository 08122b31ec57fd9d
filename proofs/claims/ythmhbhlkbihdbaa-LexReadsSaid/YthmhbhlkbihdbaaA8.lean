/- The walk of text: a quoted string. -/
import Derived.Test.YthmhbhlkbihdbaaA5
import Derived.Laws.BytesArg
import Derived.Deep.RegionWith
namespace Go.Proofs.Ythmhbhlkbihdbaa
open Go.RowKit LexP

def byteV (c : UInt8) : Value := .int .u8 c.toNat
theorem Try.info5 : (Try.prog.info? 5).map (fun i => (i.zero, i.size, i.bytes)) = some (some (.int .u8 0), 1, 1) := by kernel_rfl

/-- a row of bytes, as a string -/
theorem conv_own {w : World} {B : Nat} {v : Value} {b : List UInt8} (h : w.ownsRow B 5 1 v b.length (b.map byteV)) : (convert 36 9 v).run Try.prog w = .ok (.string ⟨b.toArray⟩) w := by
  have hc := fun g hg => h.cells (g := g) hg
  rcases h.2 with ⟨rfl, h0⟩ | ⟨g, cap, cur, rfl, _⟩
  · have : b = [] := List.length_eq_zero_iff.1 h0
    subst this
    exact run_convert_bytes_nil w 36 5 Try.underlying36 Try.underlying5 0 0 9 Try.underlying9
  · have hcell : ∀ i, i < b.length → w.cell? ⟨g, 0 + i, none⟩ = some (.int .u8 ((b.map fun c : UInt8 => (c.toNat : Int)).getD i 0)) := by
      intro i hi
      have := hc g rfl i (.int .u8 (b[i].toNat)) (by simp [byteV, hi])
      have hadd : (⟨g, 0, none⟩ : Addr).add i = ⟨g, 0 + i, none⟩ := by unfold Addr.add; split <;> simp_all
      rw [hadd] at this
      rw [this]
      simp [List.getD, hi]
    rw [run_convert_bytes_arg w 36 5 Try.underlying36 Try.underlying5 g 0 b.length cap (b.map fun c : UInt8 => (c.toNat : Int)) (by simp) hcell 9 Try.underlying9]
    congr 2
    unfold strOfNums
    have hm : ((fun n : Int => UInt8.ofNat n.toNat) ∘ fun c : UInt8 => (c.toNat : Int)) = id := by funext c; simp
    rw [List.map_map, hm, List.map_id]

theorem own_shape {w : World} {B e sz : Nat} {v : Value} {n : Nat} {xs : List Value} (h : w.ownsRow B e sz v n xs) : ∃ ao cap, v = .slice ao n cap := by
  rcases h.2 with ⟨rfl, rfl⟩ | ⟨g, cap, cur, rfl, _⟩
  · exact ⟨_, _, rfl⟩
  · exact ⟨_, _, rfl⟩

theorem own_below {w w' : World} {base e sz : Nat} {v : Value} {n : Nat} {xs : List Value} (h : w.ownsRow base e sz v n xs) (hb : Below w.heap.size w w') : w'.ownsRow base e sz v n xs :=
  h.kept (row := some w.heap.size) ⟨hb.os, hb.tape, hb.output, hb.size, fun k hk _ => hb.block k hk⟩ (Or.inr (fun e => by have := (h.lt _ e).2; omega))

section
variable (s : ByteArray) (k : Nat) (b : List UInt8)
theorem q_end (h : s.size ≤ k) : quoteGo b (s.data.toList.drop k) = none := by rw [drop_end s k h]; rfl
variable (h : k < s.size)
include h
theorem q_long (h1 : 100 < b.length) : quoteGo b (s.data.toList.drop k) = none := by rw [drop_at s k h]; exact quoteGo_long _ _ _ (by simp; omega)
variable (h1 : b.length ≤ 100)
include h1
theorem q_quote (e34 : ((s[k].toNat : Int) == 34) = true) : quoteGo b (s.data.toList.drop k) = some (b, 1) := by
  rw [drop_at s k h]; exact quoteGo_quote _ _ _ (by simp; omega) e34
variable (e34 : ((s[k].toNat : Int) == 34) = false)
include e34
theorem q_bad (hb : (decide ((s[k].toNat : Int) < 32) || decide (126 < (s[k].toNat : Int))) = true) : quoteGo b (s.data.toList.drop k) = none := by
  rw [drop_at s k h]; exact quoteGo_bad _ _ _ (by simp; omega) e34 hb
variable (hb : (decide ((s[k].toNat : Int) < 32) || decide (126 < (s[k].toNat : Int))) = false)
include hb
theorem q_plain (e92 : ((s[k].toNat : Int) == 92) = false) : quoteGo b (s.data.toList.drop k) = (quoteGo (b ++ [s[k]]) (s.data.toList.drop (k + 1))).map fun x => (x.1, x.2 + 1) := by
  rw [drop_at s k h]; exact quoteGo_plain _ _ _ (by simp; omega) e34 hb e92
variable (e92 : ((s[k].toNat : Int) == 92) = true)
include e92
theorem q_esc_end (h2 : k + 1 = s.size) : quoteGo b (s.data.toList.drop k) = none := by
  rw [drop_at s k h, drop_end s (k + 1) (by omega)]; exact quoteGo_esc_end _ _ (by simp; omega) e34 hb e92
variable (h2 : k + 1 < s.size)
theorem q_esc : quoteGo b (s.data.toList.drop k) =
    if (s[k + 1].toNat : Int) == 110 then (quoteGo (b ++ [10]) (s.data.toList.drop (k + 1 + 1))).map fun x => (x.1, x.2 + 2)
    else if (s[k + 1].toNat : Int) == 34 || (s[k + 1].toNat : Int) == 92 then (quoteGo (b ++ [s[k + 1]]) (s.data.toList.drop (k + 1 + 1))).map fun x => (x.1, x.2 + 2) else none := by
  rw [drop_at s k h, drop_at s (k + 1) h2]; exact quoteGo_esc _ _ _ (by simp; omega) e34 hb e92 _
end

theorem Rds.trans {B : Nat} {w w1 w' : World} {R : Nat} {s : ByteArray} {q n : Nat} {xs : List Value} (h : Rds B w1 R s q n xs w') (hb : Below B w w1) : Rds B w R s q n xs w' := by
  obtain ⟨tv, h1, h2, h3⟩ := h
  exact ⟨tv, h1, h2, hb.trans h3⟩

def quoteT (l : List UInt8) : Option Tk := (quoteGo [] (l.drop 1)).map fun x => ⟨4, x.2 + 1, x.1, 0⟩

set_option maxRecDepth 100000 in
set_option maxHeartbeats 2000000 in
theorem textR_any (R : Nat) (s : ByteArray) (p : Nat) (tv : Value) (n : Nat) (xs : List Value) (w : World) (hs : s.size ≤ 100000) (hp : p < s.size) (hn : n ≤ 100000)
    (hr : Rd w R s p tv) (hown : w.ownsRow (R + 1) 31 4 tv n xs) :
    Calls Try.prog 31 #[.pointer (some ⟨R, 0, none⟩)] w (OneP w R s p n xs (quoteT (s.data.toList.drop p))) := by
  have h0 := hr.c0
  have h1 := hr.c1
  have hlt := hr.lt
  have HR := Lib.hid hr
  have HO := Lib.hid hown
  clear hr hown
  obtain ⟨i0, hi0, hz0, hz1, hz2⟩ := info_parts Try.info5
  go_enter Try.func31, Try.ntmps31
  go_wp2_with fail
  go_loopw [3, 4] (fun v i wr => ∃ (k : Nat) (b : List UInt8), p < k ∧ i = .int .i64 k ∧ k ≤ s.size ∧ b.length ≤ k ∧ wr.ownsRow w.heap.size 5 1 v b.length (b.map byteV) ∧ Below w.heap.size w wr ∧
      Hid (quoteT (s.data.toList.drop p) = (quoteGo b (s.data.toList.drop k)).map fun x => ⟨4, x.2 + (k - p), x.1, 0⟩)) (fun _ i _ => s.size - (intOf i).toNat)
  case atStart => exact ⟨p + 1, [], by omega, by go_num, by omega, by simp, World.ownsRow_nil _ _ _ _, Below.refl _ _, by simp [Hid, quoteT]⟩
  case round =>
    obtain ⟨k, b, hpk, rfl, hk, hbl, hown, hbel, H⟩ := hrel
    have c0 := (hbel.cell (p := ⟨R, 0, none⟩) hlt).trans h0
    have c1 := (hbel.cell (p := ⟨R, 1, none⟩) hlt).trans h1
    obtain ⟨ao, cap, rfl⟩ := own_shape hown
    have hsz := hbel.size
    have HB := Lib.hid hbel
    have HW := Lib.hid hown
    have HF := Lib.hid (show ∀ (X : Option (List UInt8 × Nat)), X = none → quoteGo b (s.data.toList.drop k) = X → OneP w R s p n xs (quoteT (s.data.toList.drop p)) (.returned (.bool false)) wr by
      rintro _ rfl hX
      rw [H.out, hX]
      exact ⟨rfl, tv, HR.out.keep (hbel.block R hlt), own_below HO.out hbel, hbel.mono (by omega)⟩)
    clear hown hbel h0 h1
    by_cases hks : k < s.size
    case neg =>
      have HQ := Lib.hid (q_end s k b (by omega))
      go_wp2_with fail
      go_ret
      exact HF.out _ rfl HQ.out
    by_cases hb1 : b.length ≤ 100
    case neg =>
      have HQ := Lib.hid (q_long s k b hks (by omega))
      go_wp2_with fail
      go_ret
      exact HF.out _ rfl HQ.out
    by_cases e34 : ((s[k].toNat : Int) == 34) = true
    case pos =>
      have HQ := Lib.hid (q_quote s k b hks hb1 e34)
      have hcv : (convert 36 9 (.slice ao b.length cap)).run Try.prog wr.drew = .ok (.string ⟨b.toArray⟩) wr.drew := conv_own (w := wr.drew) HW.out.drew
      have hw1 : IntKind.i64.wrap ((k : Int) + 1) = (k : Int) + 1 := IntWalk.i64_in _ (by omega)
      have hw2 : IntKind.i64.wrap ((k : Int) + 1 - (p : Int)) = (k : Int) + 1 - (p : Int) := IntWalk.i64_in _ (by omega)
      go_wp2_with fail
      go_region_with (go_at_call 22; refine (put_int R s p tv n xs _ _ _ _ _ (by omega) (by unfold maxLen; omega) hn ((HR.out.keep (HB.out.block R hlt)).drew 1) ((own_below HO.out HB.out).drew)).mono ?_; rintro e w1 ⟨rfl, hw1⟩)
      all_goals go_wp2
      all_goals go_ret
      all_goals
        rw [H.out, HQ.out]
        refine ⟨rfl, ?_⟩
        have hz := (hw1.base 1).trans (HB.out.mono (by omega))
        rw [show p + ((k : Int) + 1 - (p : Int)).toNat = p + (1 + (k - p)) by omega] at hz
        exact hz
    have e34 : ((s[k].toNat : Int) == 34) = false := by simpa using e34
    by_cases hbad : (decide ((s[k].toNat : Int) < 32) || decide (126 < (s[k].toNat : Int))) = true
    case pos =>
      have HQ := Lib.hid (q_bad s k b hks hb1 e34 hbad)
      go_wp2_with fail
      all_goals go_ret
      all_goals exact HF.out _ rfl HQ.out
    have hbad : (decide ((s[k].toNat : Int) < 32) || decide (126 < (s[k].toNat : Int))) = false := by simpa using hbad
    have HQbad := Lib.hid hbad
    have hb1' := hbad
    simp only [Bool.or_eq_false_iff] at hb1'
    obtain ⟨hx1, hx2⟩ := hb1'
    by_cases e92 : ((s[k].toNat : Int) == 92) = true
    case neg =>
      have e92 : ((s[k].toNat : Int) == 92) = false := by simpa using e92
      have HQ := Lib.hid (q_plain s k b hks hb1 e34 hbad e92)
      clear hbad
      go_wp2_with (at_builtin; refine wpList_append_lies _ rfl (.tmp 81) (.tmp 83) 36 rfl w.heap.size 5 i0 _ 1 1 Try.underlying36 hi0 hz0 hz1 hz2 rfl (by decide) _ b.length _ rfl (HW.out.alloc _) ⟨wr.heap.size, 0, none⟩ 1 1 [.int .u8 s[k].toNat] rfl rfl (World.news_of_block (cs := #[.int .u8 s[k].toNat]) (t := 5) (fr := (0, 0)) (heap_alloc_new wr _)) (by simp [Value.oneCell']) (by omega) (by unfold maxLen; omega) (by omega) (by simp; omega) (wr.heap.size + 1) (by simp) ?_; intro gg cp w1 hown1 hgrow hat hlt1; have HG : Hid ((wr.alloc (.cells #[.int .u8 s[k].toNat] 5)).grownBy w1 (Value.slice ao b.length cap).ownBlock) := hgrow; have HW1 := Lib.hid hown1; clear hown1 hgrow hat)
      go_roundw
      case rel =>
        refine ⟨k + 1, b ++ [s[k]], by omega, by go_num, by omega, by simp; omega, ?_, ?_, ?_⟩
        · have := HW1.out; rw [show b.length + 1 = (b ++ [s[k]]).length by simp] at this; simpa [byteV] using this
        · exact (HB.out.alloc hsz _).grown HG.out (by simp; omega) (fun g hg => (HW.out.lt g hg).1)
        · show _ = _
          rw [H.out, HQ.out]
          cases quoteGo (b ++ [s[k]]) (s.data.toList.drop (k + 1)) with
          | none => rfl
          | some x => simp; omega
      case measure => simp [intOf]; omega
    have HQ0 := Lib.hid (q_esc_end s k b hks hb1 e34 hbad e92)
    have HQ1 := Lib.hid (q_esc s k b hks hb1 e34 hbad e92)
    clear hbad
    by_cases h2 : k + 1 < s.size
    case neg =>
      have h3 : k + 1 = s.size := by omega
      have h4 : ((k : Int) + 1 == (s.size : Int)) = true := by simp; omega
      have HQ := Lib.hid (HQ0.out h3)
      clear h3
      go_wp2_with fail
      all_goals go_ret
      all_goals exact HF.out _ rfl HQ.out
    have h4 : ((k : Int) + 1 == (s.size : Int)) = false := by simp; omega
    have HQ2 := Lib.hid (HQ1.out h2)
    by_cases f1 : ((s[k + 1].toNat : Int) == 110) = true
    case pos =>
      have HQ := Lib.hid (show quoteGo b (s.data.toList.drop k) = _ by rw [HQ2.out, if_pos f1])
      go_wp2_with (at_builtin; refine wpList_append_lies _ rfl (.tmp 81) (.tmp 83) 36 rfl w.heap.size 5 i0 _ 1 1 Try.underlying36 hi0 hz0 hz1 hz2 rfl (by decide) _ b.length _ rfl (HW.out.alloc _) ⟨wr.heap.size, 0, none⟩ 1 1 [.int .u8 10] rfl rfl (World.news_of_block (cs := #[.int .u8 10]) (t := 5) (fr := (0, 0)) (heap_alloc_new wr _)) (by simp [Value.oneCell']) (by omega) (by unfold maxLen; omega) (by omega) (by simp; omega) (wr.heap.size + 1) (by simp) ?_; intro gg cp w1 hown1 hgrow hat hlt1; have HG : Hid ((wr.alloc (.cells #[.int .u8 10] 5)).grownBy w1 (Value.slice ao b.length cap).ownBlock) := hgrow; have HW1 := Lib.hid hown1; clear hown1 hgrow hat)
      go_roundw
      case rel =>
        refine ⟨k + 1 + 1, b ++ [10], by omega, by go_num, by omega, by simp; omega, ?_, ?_, ?_⟩
        · have := HW1.out; rw [show b.length + 1 = (b ++ [10]).length by simp] at this; simpa [byteV] using this
        · exact (HB.out.alloc hsz _).grown HG.out (by simp; omega) (fun g hg => (HW.out.lt g hg).1)
        · show _ = _
          rw [H.out, HQ.out]
          cases quoteGo (b ++ [10]) (s.data.toList.drop (k + 1 + 1)) with
          | none => rfl
          | some x => simp; omega
      case measure => simp [intOf]; omega
    have f1 : ((s[k + 1].toNat : Int) == 110) = false := by simpa using f1
    by_cases f2 : ((s[k + 1].toNat : Int) == 34) = true
    case pos =>
      have HQ := Lib.hid (show quoteGo b (s.data.toList.drop k) = _ by rw [HQ2.out, if_neg (by rw [f1]; simp), if_pos (by rw [f2]; simp)])
      go_wp2_with (at_builtin; refine wpList_append_lies _ rfl (.tmp 81) (.tmp 83) 36 rfl w.heap.size 5 i0 _ 1 1 Try.underlying36 hi0 hz0 hz1 hz2 rfl (by decide) _ b.length _ rfl (HW.out.alloc _) ⟨wr.heap.size, 0, none⟩ 1 1 [.int .u8 s[k + 1].toNat] rfl rfl (World.news_of_block (cs := #[.int .u8 s[k + 1].toNat]) (t := 5) (fr := (0, 0)) (heap_alloc_new wr _)) (by simp [Value.oneCell']) (by omega) (by unfold maxLen; omega) (by omega) (by simp; omega) (wr.heap.size + 1) (by simp) ?_; intro gg cp w1 hown1 hgrow hat hlt1; have HG : Hid ((wr.alloc (.cells #[.int .u8 s[k + 1].toNat] 5)).grownBy w1 (Value.slice ao b.length cap).ownBlock) := hgrow; have HW1 := Lib.hid hown1; clear hown1 hgrow hat)
      go_roundw
      case rel =>
        refine ⟨k + 1 + 1, b ++ [s[k + 1]], by omega, by go_num, by omega, by simp; omega, ?_, ?_, ?_⟩
        · have := HW1.out; rw [show b.length + 1 = (b ++ [s[k + 1]]).length by simp] at this; simpa [byteV] using this
        · exact (HB.out.alloc hsz _).grown HG.out (by simp; omega) (fun g hg => (HW.out.lt g hg).1)
        · show _ = _
          rw [H.out, HQ.out]
          cases quoteGo (b ++ [s[k + 1]]) (s.data.toList.drop (k + 1 + 1)) with
          | none => rfl
          | some x => simp; omega
      case measure => simp [intOf]; omega
    have f2 : ((s[k + 1].toNat : Int) == 34) = false := by simpa using f2
    by_cases f3 : ((s[k + 1].toNat : Int) == 92) = true
    case pos =>
      have HQ := Lib.hid (show quoteGo b (s.data.toList.drop k) = _ by rw [HQ2.out, if_neg (by rw [f1]; simp), if_pos (by rw [f3]; simp)])
      go_wp2_with (at_builtin; refine wpList_append_lies _ rfl (.tmp 81) (.tmp 83) 36 rfl w.heap.size 5 i0 _ 1 1 Try.underlying36 hi0 hz0 hz1 hz2 rfl (by decide) _ b.length _ rfl (HW.out.alloc _) ⟨wr.heap.size, 0, none⟩ 1 1 [.int .u8 s[k + 1].toNat] rfl rfl (World.news_of_block (cs := #[.int .u8 s[k + 1].toNat]) (t := 5) (fr := (0, 0)) (heap_alloc_new wr _)) (by simp [Value.oneCell']) (by omega) (by unfold maxLen; omega) (by omega) (by simp; omega) (wr.heap.size + 1) (by simp) ?_; intro gg cp w1 hown1 hgrow hat hlt1; have HG : Hid ((wr.alloc (.cells #[.int .u8 s[k + 1].toNat] 5)).grownBy w1 (Value.slice ao b.length cap).ownBlock) := hgrow; have HW1 := Lib.hid hown1; clear hown1 hgrow hat)
      go_roundw
      case rel =>
        refine ⟨k + 1 + 1, b ++ [s[k + 1]], by omega, by go_num, by omega, by simp; omega, ?_, ?_, ?_⟩
        · have := HW1.out; rw [show b.length + 1 = (b ++ [s[k + 1]]).length by simp] at this; simpa [byteV] using this
        · exact (HB.out.alloc hsz _).grown HG.out (by simp; omega) (fun g hg => (HW.out.lt g hg).1)
        · show _ = _
          rw [H.out, HQ.out]
          cases quoteGo (b ++ [s[k + 1]]) (s.data.toList.drop (k + 1 + 1)) with
          | none => rfl
          | some x => simp; omega
      case measure => simp [intOf]; omega
    have f3 : ((s[k + 1].toNat : Int) == 92) = false := by simpa using f3
    have HQ := Lib.hid (show quoteGo b (s.data.toList.drop k) = none by rw [HQ2.out, if_neg (by rw [f1]; simp), if_neg (by rw [f2, f3]; simp)])
    go_wp2_with fail
    all_goals go_ret
    all_goals exact HF.out _ rfl HQ.out
end Go.Proofs.Ythmhbhlkbihdbaa
