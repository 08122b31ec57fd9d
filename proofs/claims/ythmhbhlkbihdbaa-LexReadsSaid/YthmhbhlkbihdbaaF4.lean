/- The walk of the reference's quoted. -/
import Derived.Test.YthmhbhlkbihdbaaF3
namespace Go.Proofs.Ythmhbhlkbihdbaa
open Go.RowKit LexP

/-- what quoted and next hand back -/
def TokPost (w : World) (p : Nat) (o : Option Tk) (e : Ending) (w' : World) : Prop :=
  Below w.heap.size w w' ∧
  match o with
  | some t => e = .returned (.tuple #[tokV ⟨t.kind, t.text, t.n, p⟩, .int .i64 ((p + t.len : Nat) : Int), .bool true])
  | none => ∃ t : Tok, ∃ k : Int, e = .returned (.tuple #[tokV t, .int .i64 k, .bool false])

theorem quoteGo_over (b : List UInt8) (l : List UInt8) (h : 100 < b.length) : quoteGo b l = none := by
  cases l with
  | nil => rfl
  | cons c r => exact quoteGo_long _ _ _ (by simpa using h)

section
variable (s : ByteArray) (k : Nat) (b : List UInt8) (h : k < s.size) (e34 : ((s[k].toNat : Int) == 34) = false)
include h e34
theorem Q_bad (hb : (decide ((s[k].toNat : Int) < 32) || decide (126 < (s[k].toNat : Int))) = true) : quoteGo b (s.data.toList.drop k) = none := by
  by_cases h1 : 100 < b.length
  · exact quoteGo_over _ _ h1
  · exact q_bad s k b h (by omega) e34 hb
variable (hb : (decide ((s[k].toNat : Int) < 32) || decide (126 < (s[k].toNat : Int))) = false)
include hb
theorem Q_plain (e92 : ((s[k].toNat : Int) == 92) = false) : quoteGo b (s.data.toList.drop k) = (quoteGo (b ++ [s[k]]) (s.data.toList.drop (k + 1))).map fun x => (x.1, x.2 + 1) := by
  by_cases h1 : 100 < b.length
  · rw [quoteGo_over _ _ h1, quoteGo_over _ _ (by simp; omega)]; rfl
  · exact q_plain s k b h (by omega) e34 hb e92
variable (e92 : ((s[k].toNat : Int) == 92) = true)
include e92
theorem Q_esc_end (h2 : k + 1 = s.size) : quoteGo b (s.data.toList.drop k) = none := by
  by_cases h1 : 100 < b.length
  · exact quoteGo_over _ _ h1
  · exact q_esc_end s k b h (by omega) e34 hb e92 h2
variable (h2 : k + 1 < s.size)
theorem Q_esc : quoteGo b (s.data.toList.drop k) =
    if (s[k + 1].toNat : Int) == 110 then (quoteGo (b ++ [10]) (s.data.toList.drop (k + 1 + 1))).map fun x => (x.1, x.2 + 2)
    else if (s[k + 1].toNat : Int) == 34 || (s[k + 1].toNat : Int) == 92 then (quoteGo (b ++ [s[k + 1]]) (s.data.toList.drop (k + 1 + 1))).map fun x => (x.1, x.2 + 2) else none := by
  by_cases h1 : 100 < b.length
  · rw [quoteGo_over _ _ h1, quoteGo_over _ _ (by simp; omega), quoteGo_over _ _ (by simp; omega)]
    split
    · rfl
    · split <;> rfl
  · exact q_esc s k b h (by omega) e34 hb e92 h2
end

theorem quo_rel {s : ByteArray} {p k k' B : Nat} {b : List UInt8} {x : UInt8} {E : Int} {w wr w1 : World} {ao : Option Addr} {cap gg cp : Nat} {o : Obj} (hpk : p < k) (hk' : k < k' ∧ k' ≤ s.size) (hbl : b.length ≤ k) (hB : B = w.heap.size + 1)
    (HG : (wr.alloc o).grownBy w1 (Value.slice ao b.length cap).ownBlock) (HW : wr.ownsRow B 5 1 (.slice ao b.length cap) b.length (b.map byteV)) (HB : Below B (w.alloc (.cells #[.int .i64 0, .string ⟨#[]⟩, .int .i64 0, .int .i64 0] 31)) wr) (hsz : w.heap.size + 1 ≤ wr.heap.size)
    (hE : Value.int .i64 E = .int .i64 k') (HW1 : w1.ownsRow B 5 1 (.slice (some ⟨gg, 0, none⟩) (b.length + 1) cp) (b.length + 1) (b.map byteV ++ [.int .u8 x.toNat]))
    (H : quoteT (s.data.toList.drop p) = (quoteGo (b ++ [x]) (s.data.toList.drop k')).map fun x => ⟨4, x.2 + (k' - p), x.1, 0⟩) :
    ∃ (k'' : Nat) (b' : List UInt8), p < k'' ∧ Value.int .i64 E = .int .i64 k'' ∧ k'' ≤ s.size ∧ b'.length ≤ k'' ∧ w1.ownsRow B 5 1 (.slice (some ⟨gg, 0, none⟩) (b.length + 1) cp) b'.length (b'.map byteV) ∧
      Below B (w.alloc (.cells #[.int .i64 0, .string ⟨#[]⟩, .int .i64 0, .int .i64 0] 31)) w1 ∧ Hid (quoteT (s.data.toList.drop p) = (quoteGo b' (s.data.toList.drop k'')).map fun x => ⟨4, x.2 + (k'' - p), x.1, 0⟩) := by
  refine ⟨k', b ++ [x], by omega, hE, hk'.2, by simp; omega, ?_, ?_, H⟩
  · rw [show b.length + 1 = (b ++ [x]).length by simp] at HW1
    simpa [byteV] using HW1
  · exact (HB.alloc (by omega) _).grown HG (by simp; omega) (fun g hg => (HW.lt g hg).1)

set_option maxRecDepth 100000 in
set_option maxHeartbeats 2000000 in
theorem Quoted_any (s : ByteArray) (p : Nat) (w : World) (hs : s.size ≤ 100000) (hp : p < s.size) :
    Calls Try.prog 36 #[.string s, .int .i64 p] w (TokPost w p (quoteT (s.data.toList.drop p))) := by
  obtain ⟨i0, hi0, hz0, hz1, hz2⟩ := info_parts Try.info5
  go_enter Try.func36, Try.ntmps36
  go_wp2_with fail
  go_loopw [7, 8] (fun v i wr => ∃ (k : Nat) (b : List UInt8), p < k ∧ i = .int .i64 k ∧ k ≤ s.size ∧ b.length ≤ k ∧ wr.ownsRow (w.heap.size + 1) 5 1 v b.length (b.map byteV) ∧
      Below (w.heap.size + 1) (w.alloc (.cells #[.int .i64 0, .string ⟨#[]⟩, .int .i64 0, .int .i64 0] 31)) wr ∧
      Hid (quoteT (s.data.toList.drop p) = (quoteGo b (s.data.toList.drop k)).map fun x => ⟨4, x.2 + (k - p), x.1, 0⟩)) (fun _ i _ => s.size - (intOf i).toNat)
  case atStart => exact ⟨p + 1, [], by omega, by go_num, by omega, by simp, World.ownsRow_nil _ _ _ _, Below.refl _ _, by simp [Hid, quoteT]⟩
  case round =>
    obtain ⟨k, b, hpk, rfl, hk, hbl, hown, hbel, H⟩ := hrel
    obtain ⟨ao, cap, rfl⟩ := own_shape hown
    have hsz := hbel.size
    simp only [World.size_alloc] at hsz
    have khs : w.heap.size < wr.heap.size := by omega
    have kb : wr.heap[w.heap.size]? = some (.cells #[.int .i64 0, .string ⟨#[]⟩, .int .i64 0, .int .i64 0] 31) := (hbel.block w.heap.size (by omega)).trans (heap_alloc_new w _)
    have kc0 : wr.cell? ⟨w.heap.size, 0, none⟩ = some (.int .i64 0) := by simp [World.cell?, kb]
    have kc1 : wr.cell? ⟨w.heap.size, 1, none⟩ = some (.string ⟨#[]⟩) := by simp [World.cell?, kb]
    have kc2 : wr.cell? ⟨w.heap.size, 2, none⟩ = some (.int .i64 0) := by simp [World.cell?, kb]
    have kc3 : wr.cell? ⟨w.heap.size, 3, none⟩ = some (.int .i64 0) := by simp [World.cell?, kb]
    have kf : ∀ o, wr.frozen? ⟨w.heap.size, o, none⟩ = false := fun o => by simp [World.frozen?, kb]
    have kf0 := kf 0
    have kf1 := kf 1
    have kf2 := kf 2
    have kf3 := kf 3
    have HB := Lib.hid hbel
    have HW := Lib.hid hown
    have HBW := Lib.hid (show Below w.heap.size w wr from ((Below.refl _ _).alloc (Nat.le_refl _) _).trans (hbel.mono (by omega)))
    clear hown hbel kb kf
    by_cases hks : k < s.size
    case neg =>
      have HQ := Lib.hid (show quoteT (s.data.toList.drop p) = none by rw [H.out, q_end s k b (by omega)]; rfl)
      go_wp2_with fail
      refine bodyPost_ret (v := .tuple #[noTok, .int .i64 0, .bool false]) (by simp [results, Try.results36, go_sem, noTok, kc0, kc1, kc2, kc3]) rfl ⟨?_, ?_⟩
      · exact ((((HBW.out.setCell (by simp) _).setCell (by simp) _).setCell (by simp) _).setCell (by simp) _)
      · rw [HQ.out]; exact ⟨⟨0, [], 0, 0⟩, 0, rfl⟩
    cases e34 : ((s[k].toNat : Int) == 34)
    case true =>
      have e34' : ((s[k].toNat : Int) != 34) = false := by rw [bne, e34]; rfl
      by_cases hb1 : b.length ≤ 100
      · have HQ := Lib.hid (show quoteT (s.data.toList.drop p) = some ⟨4, 1 + (k - p), b, 0⟩ by rw [H.out, q_quote s k b hks hb1 e34]; rfl)
        have hcv : (convert 36 9 (.slice ao b.length cap)).run Try.prog wr = .ok (.string ⟨b.toArray⟩) wr := conv_own HW.out
        go_wp2_with fail
        refine bodyPost_ret (v := .tuple #[tokV ⟨4, b, 0, p⟩, .int .i64 ((k : Int) + 1), .bool true]) (by simp [results, Try.results36, go_sem, tokV, kc0, kc1, kc2, kc3]) rfl ⟨?_, ?_⟩
        · exact ((((HBW.out.setCell (by simp) _).setCell (by simp) _).setCell (by simp) _).setCell (by simp) _)
        · rw [HQ.out]; show Ending.returned _ = Ending.returned _; rw [show ((p + (1 + (k - p)) : Nat) : Int) = (k : Int) + 1 by omega]
      · have HQ := Lib.hid (show quoteT (s.data.toList.drop p) = none by rw [H.out, quoteGo_over _ _ (by omega)]; rfl)
        go_wp2_with fail
        refine bodyPost_ret (v := .tuple #[noTok, .int .i64 0, .bool false]) (by simp [results, Try.results36, go_sem, noTok, kc0, kc1, kc2, kc3]) rfl ⟨?_, ?_⟩
        · exact ((((HBW.out.setCell (by simp) _).setCell (by simp) _).setCell (by simp) _).setCell (by simp) _)
        · rw [HQ.out]; exact ⟨⟨0, [], 0, 0⟩, 0, rfl⟩
    have e34' : ((s[k].toNat : Int) != 34) = true := by rw [bne, e34]; rfl
    by_cases hbad : (decide ((s[k].toNat : Int) < 32) || decide (126 < (s[k].toNat : Int))) = true
    case pos =>
      have HQ := Lib.hid (show quoteT (s.data.toList.drop p) = none by rw [H.out, Q_bad s k b hks e34 hbad]; rfl)
      have hbad2 : (s[k].toNat : Int) < 32 ∨ (32 ≤ (s[k].toNat : Int) ∧ 126 < (s[k].toNat : Int)) := by simp only [Bool.or_eq_true, decide_eq_true_eq] at hbad; omega
      clear hbad
      rcases hbad2 with g1 | ⟨g1, g2⟩
      all_goals
        go_wp2_with fail
        refine bodyPost_ret (v := .tuple #[noTok, .int .i64 0, .bool false]) (by simp [results, Try.results36, go_sem, noTok, kc0, kc1, kc2, kc3]) rfl ⟨?_, ?_⟩
        · exact ((((HBW.out.setCell (by simp) _).setCell (by simp) _).setCell (by simp) _).setCell (by simp) _)
        · rw [HQ.out]; exact ⟨⟨0, [], 0, 0⟩, 0, rfl⟩
    have hbad : (decide ((s[k].toNat : Int) < 32) || decide (126 < (s[k].toNat : Int))) = false := by simpa using hbad
    have hb1' := hbad
    simp only [Bool.or_eq_false_iff] at hb1'
    obtain ⟨hx1, hx2⟩ := hb1'
    cases e92 : ((s[k].toNat : Int) == 92)
    case false =>
      have HQ := Lib.hid (Q_plain s k b hks e34 hbad e92)
      clear hbad
      go_wp2_with (at_builtin; refine wpList_append_lies _ rfl (.tmp 53) (.tmp 55) 36 rfl (w.heap.size + 1) 5 i0 _ 1 1 Try.underlying36 hi0 hz0 hz1 hz2 rfl (by decide) _ b.length _ rfl (HW.out.alloc _) ⟨wr.heap.size, 0, none⟩ 1 1 [.int .u8 s[k].toNat] rfl rfl (World.news_of_block (cs := #[.int .u8 s[k].toNat]) (t := 5) (fr := (0, 0)) (heap_alloc_new wr _)) (by simp [Value.oneCell']) (by omega) (by unfold maxLen; omega) (by omega) (by simp; omega) (wr.heap.size + 1) (by simp) ?_; intro gg cp w1 hown1 hgrow hat hlt1; have HG : Hid ((wr.alloc (.cells #[.int .u8 s[k].toNat] 5)).grownBy w1 (Value.slice ao b.length cap).ownBlock) := hgrow; have HW1 := Lib.hid hown1; clear hown1 hgrow hat)
      exact ⟨quo_rel (k' := k + 1) hpk (by omega) hbl rfl HG.out HW.out HB.out hsz (by go_num) HW1.out (by rw [H.out, HQ.out]; cases quoteGo (b ++ [s[k]]) (s.data.toList.drop (k + 1)) <;> simp <;> omega), by simp [intOf]; omega⟩
    have HQ0 := Lib.hid (Q_esc_end s k b hks e34 hbad e92)
    have HQ1 := Lib.hid (Q_esc s k b hks e34 hbad e92)
    clear hbad
    by_cases h2 : k + 1 < s.size
    case neg =>
      have h3 : k + 1 = s.size := by omega
      have HQ := Lib.hid (show quoteT (s.data.toList.drop p) = none by rw [H.out, HQ0.out h3]; rfl)
      clear h3
      go_wp2_with fail
      refine bodyPost_ret (v := .tuple #[noTok, .int .i64 0, .bool false]) (by simp [results, Try.results36, go_sem, noTok, kc0, kc1, kc2, kc3]) rfl ⟨?_, ?_⟩
      · exact ((((HBW.out.setCell (by simp) _).setCell (by simp) _).setCell (by simp) _).setCell (by simp) _)
      · rw [HQ.out]; exact ⟨⟨0, [], 0, 0⟩, 0, rfl⟩
    have HQ2 := Lib.hid (HQ1.out h2)
    cases f1 : ((s[k + 1].toNat : Int) == 110)
    case true =>
      have HQ := Lib.hid (show quoteGo b (s.data.toList.drop k) = _ by rw [HQ2.out, if_pos f1])
      go_wp2_with (at_builtin; refine wpList_append_lies _ rfl (.tmp 53) (.tmp 55) 36 rfl (w.heap.size + 1) 5 i0 _ 1 1 Try.underlying36 hi0 hz0 hz1 hz2 rfl (by decide) _ b.length _ rfl (HW.out.alloc _) ⟨wr.heap.size, 0, none⟩ 1 1 [.int .u8 10] rfl rfl (World.news_of_block (cs := #[.int .u8 10]) (t := 5) (fr := (0, 0)) (heap_alloc_new wr _)) (by simp [Value.oneCell']) (by omega) (by unfold maxLen; omega) (by omega) (by simp; omega) (wr.heap.size + 1) (by simp) ?_; intro gg cp w1 hown1 hgrow hat hlt1; have HG : Hid ((wr.alloc (.cells #[.int .u8 10] 5)).grownBy w1 (Value.slice ao b.length cap).ownBlock) := hgrow; have HW1 := Lib.hid hown1; clear hown1 hgrow hat)
      exact ⟨quo_rel (x := 10) (k' := k + 1 + 1) hpk (by omega) hbl rfl HG.out HW.out HB.out hsz (by go_num) HW1.out (by rw [H.out, HQ.out]; cases quoteGo (b ++ [10]) (s.data.toList.drop (k + 1 + 1)) <;> simp <;> omega), by simp [intOf]; omega⟩
    cases f2 : ((s[k + 1].toNat : Int) == 34)
    case true =>
      have HQ := Lib.hid (show quoteGo b (s.data.toList.drop k) = _ by rw [HQ2.out, if_neg (by rw [f1]; simp), if_pos (by rw [f2]; simp)])
      go_wp2_with (at_builtin; refine wpList_append_lies _ rfl (.tmp 53) (.tmp 55) 36 rfl (w.heap.size + 1) 5 i0 _ 1 1 Try.underlying36 hi0 hz0 hz1 hz2 rfl (by decide) _ b.length _ rfl (HW.out.alloc _) ⟨wr.heap.size, 0, none⟩ 1 1 [.int .u8 s[k + 1].toNat] rfl rfl (World.news_of_block (cs := #[.int .u8 s[k + 1].toNat]) (t := 5) (fr := (0, 0)) (heap_alloc_new wr _)) (by simp [Value.oneCell']) (by omega) (by unfold maxLen; omega) (by omega) (by simp; omega) (wr.heap.size + 1) (by simp) ?_; intro gg cp w1 hown1 hgrow hat hlt1; have HG : Hid ((wr.alloc (.cells #[.int .u8 s[k + 1].toNat] 5)).grownBy w1 (Value.slice ao b.length cap).ownBlock) := hgrow; have HW1 := Lib.hid hown1; clear hown1 hgrow hat)
      exact ⟨quo_rel (k' := k + 1 + 1) hpk (by omega) hbl rfl HG.out HW.out HB.out hsz (by go_num) HW1.out (by rw [H.out, HQ.out]; cases quoteGo (b ++ [s[k + 1]]) (s.data.toList.drop (k + 1 + 1)) <;> simp <;> omega), by simp [intOf]; omega⟩
    cases f3 : ((s[k + 1].toNat : Int) == 92)
    case true =>
      have HQ := Lib.hid (show quoteGo b (s.data.toList.drop k) = _ by rw [HQ2.out, if_neg (by rw [f1]; simp), if_pos (by rw [f3]; simp)])
      go_wp2_with (at_builtin; refine wpList_append_lies _ rfl (.tmp 53) (.tmp 55) 36 rfl (w.heap.size + 1) 5 i0 _ 1 1 Try.underlying36 hi0 hz0 hz1 hz2 rfl (by decide) _ b.length _ rfl (HW.out.alloc _) ⟨wr.heap.size, 0, none⟩ 1 1 [.int .u8 s[k + 1].toNat] rfl rfl (World.news_of_block (cs := #[.int .u8 s[k + 1].toNat]) (t := 5) (fr := (0, 0)) (heap_alloc_new wr _)) (by simp [Value.oneCell']) (by omega) (by unfold maxLen; omega) (by omega) (by simp; omega) (wr.heap.size + 1) (by simp) ?_; intro gg cp w1 hown1 hgrow hat hlt1; have HG : Hid ((wr.alloc (.cells #[.int .u8 s[k + 1].toNat] 5)).grownBy w1 (Value.slice ao b.length cap).ownBlock) := hgrow; have HW1 := Lib.hid hown1; clear hown1 hgrow hat)
      exact ⟨quo_rel (k' := k + 1 + 1) hpk (by omega) hbl rfl HG.out HW.out HB.out hsz (by go_num) HW1.out (by rw [H.out, HQ.out]; cases quoteGo (b ++ [s[k + 1]]) (s.data.toList.drop (k + 1 + 1)) <;> simp <;> omega), by simp [intOf]; omega⟩
    have HQ := Lib.hid (show quoteT (s.data.toList.drop p) = none by rw [H.out, HQ2.out, if_neg (by rw [f1]; simp), if_neg (by rw [f2, f3]; simp)]; rfl)
    go_wp2_with fail
    refine bodyPost_ret (v := .tuple #[noTok, .int .i64 0, .bool false]) (by simp [results, Try.results36, go_sem, noTok, kc0, kc1, kc2, kc3]) rfl ⟨?_, ?_⟩
    · exact ((((HBW.out.setCell (by simp) _).setCell (by simp) _).setCell (by simp) _).setCell (by simp) _)
    · rw [HQ.out]; exact ⟨⟨0, [], 0, 0⟩, 0, rfl⟩
end Go.Proofs.Ythmhbhlkbihdbaa
