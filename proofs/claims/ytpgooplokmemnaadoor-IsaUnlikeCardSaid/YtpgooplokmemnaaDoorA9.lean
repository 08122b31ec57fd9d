/- The walk of isa.Text. -/
import Derived.Test.YtpgooplokmemnaaDoorA8
import Derived.Test.YtpgooplokmemnaaDoorS0
import Derived.OwnWalk
import Derived.Deep.AppendLies
import Derived.Deep.RegionLaw
import Derived.WalkSmall
import Derived.Lib.ItoaLen
import Derived.Lib.AppendIntMem
namespace Go.Proofs.YtpgooplokmemnaaDoor
open Go Go.RowKit IsaP
set_option maxHeartbeats 4000000
set_option maxRecDepth 100000

theorem own_shape {w : World} {B e sz : Nat} {v : Value} {n : Nat} {xs : List Value} (h : w.ownsRow B e sz v n xs) : ∃ ao cap, v = .slice ao n cap := by
  rcases h.2 with ⟨rfl, rfl⟩ | ⟨g, cap, cur, rfl, _⟩
  · exact ⟨_, _, rfl⟩
  · exact ⟨_, _, rfl⟩
theorem own_below {w w' : World} {base e sz : Nat} {v : Value} {n : Nat} {xs : List Value} (h : w.ownsRow base e sz v n xs) (hb : Below w.heap.size w w') : w'.ownsRow base e sz v n xs :=
  h.kept (row := some w.heap.size) ⟨hb.os, hb.tape, hb.output, hb.size, fun k hk _ => hb.block k hk⟩ (Or.inr (fun e => by have := (h.lt _ e).2; omega))
theorem Tryd.info9' : (Tryd.prog.info? 9).map (fun i => (i.zero, i.size, i.bytes)) = some (some (.string ⟨#[]⟩), 1, 16) := by kernel_rfl
theorem new1 (w : World) (x : Value) : (w.alloc (.cells #[x] 9)).ownsRow w.heap.size 9 1 (.slice (some ⟨w.heap.size, 0, none⟩) 1 1) 1 [x] :=
  ⟨rfl, .inr ⟨w.heap.size, 1, #[x], rfl, Nat.le_refl _, heap_alloc_new w _, Nat.le_refl _, by unfold maxLen; omega, rfl, rfl⟩⟩

theorem dd_len (i : Nat) (h : i < 100) : (Lib.decDigits i).length ≤ 2 := by
  by_cases h1 : i < 10
  · rw [Lib.decDigits_one h1]; simp
  · rw [Lib.decDigits_two h1 h]; simp
theorem under51 : Tryd.prog.underlying 51 = some (.array 3 3) := by kernel_rfl
theorem info3 : (Tryd.prog.info? 3).map (fun i => (i.zero, i.size, i.bytes)) = some (some (.int .i64 0), 1, 8) := by kernel_rfl
theorem idx0 (x y z : Int) (w : World) : (Instr.index 51 (.agg #[.int .i64 x, .int .i64 y, .int .i64 z]) (.int .i64 0)).run Tryd.prog w = .ok (.int .i64 x) w := by
  obtain ⟨i0, hi0, hz0, hz1, hz2⟩ := info_parts info3
  simp [Instr.index, run_underlying under51, asIntOf, go_sem, typeInfo, sizeOf, hi0, hz1]
theorem idx1 (x y z : Int) (w : World) : (Instr.index 51 (.agg #[.int .i64 x, .int .i64 y, .int .i64 z]) (.int .i64 1)).run Tryd.prog w = .ok (.int .i64 y) w := by
  obtain ⟨i0, hi0, hz0, hz1, hz2⟩ := info_parts info3
  simp [Instr.index, run_underlying under51, asIntOf, go_sem, typeInfo, sizeOf, hi0, hz1]
theorem idx2 (x y z : Int) (w : World) : (Instr.index 51 (.agg #[.int .i64 x, .int .i64 y, .int .i64 z]) (.int .i64 2)).run Tryd.prog w = .ok (.int .i64 z) w := by
  obtain ⟨i0, hi0, hz0, hz1, hz2⟩ := info_parts info3
  simp [Instr.index, run_underlying under51, asIntOf, go_sem, typeInfo, sizeOf, hi0, hz1]
/-- a register's name -/
def regT (r : Int) : List UInt8 := 114 :: Lib.itoa r
def regP (b : Bool) (r : Int) : List (List UInt8) := if b then [regT r] else []
/-- the parts of an instruction's text -/
def parts (s : List UInt8) (r : Int) (m : Bool) (a b c imm : Int) : List (List UInt8) :=
  s :: (regP (hasB r 1) a ++ regP (hasB r 2) b ++ regP (hasB r 4) c ++ (if m then [Lib.itoa imm] else []))
def regsTo (r a b c : Int) (k : Nat) : List (List UInt8) :=
  (if 0 < k then regP (hasB r 1) a else []) ++ (if 1 < k then regP (hasB r 2) b else []) ++ (if 2 < k then regP (hasB r 4) c else [])

theorem ps_len (r : Int) (a b c : Nat) (ps : List (List UInt8)) (h : ps = regsTo r a b c 3) : ps.length ≤ 3 := by
  subst h
  have h1 : ∀ (b : Bool) (r : Int), (regP b r).length ≤ 1 := by intro b r; unfold regP; split <;> simp
  have e1 := h1 (hasB r 1) a
  have e2 := h1 (hasB r 2) b
  have e3 := h1 (hasB r 4) c
  simp [regsTo]
  omega
theorem Text.tab_below {P : Program} {n : String} {g : Nat} {k : IntKind} {zs : List Int} {w w' : World} (hg : P.globalNamed n = some g) (h : Lib.TabIs P w n k zs) (hb : Below w.heap.size w w') : Lib.TabIs P w' n k zs := by
  unfold Lib.TabIs World.var? at h ⊢
  rw [hg] at h ⊢
  simp only [Option.bind_some] at h ⊢
  have hlt : g < w.heap.size := by
    rcases Nat.lt_or_ge g w.heap.size with h' | h'
    · exact h'
    · rw [Array.getElem?_eq_none h'] at h; cases h
  rw [hb.block g hlt]
  exact h
theorem join_at (w : World) (B : Nat) (v : Value) (l : List (List UInt8)) (n : Nat) (hn : n = l.length) (hpos : 0 < l.length) (hown : w.ownsRow B 9 1 v n (l.map S)) (hlen : (Lib.join l [32]).length ≤ 1000) (hl : l.length ≤ 100) :
    Calls Tryd.prog 25 #[v, .string ⟨#[32]⟩] w fun e w' => e = .returned (.string ⟨(Lib.join l [32]).toArray⟩) ∧ Below w.heap.size w w' := by
  subst hn
  have hcc := fun g hg => hown.cells (g := g) hg
  rcases hown.2 with ⟨rfl, h0⟩ | ⟨g, cap, cur, rfl, hB, hg, hnc, hcm, _⟩
  · omega
  · have hlt : g < w.heap.size := (Array.getElem?_eq_some_iff.1 hg).1
    have hx : (l.map fun x => (⟨x.toArray⟩ : ByteArray)).map (·.data.toList) = l := by rw [List.map_map]; exact (List.map_congr_left fun _ _ => rfl).trans (List.map_id l)
    have := Tryd.strings_Join g 0 cap (l.map fun x => (⟨x.toArray⟩ : ByteArray)) ⟨#[32]⟩ w (by
      intro j x hj
      rw [List.getElem?_map] at hj
      obtain ⟨y, hy, rfl⟩ := Option.map_eq_some_iff.1 hj
      have := hcc g rfl j (S y) (by rw [List.getElem?_map, hy]; rfl)
      have hadd : (⟨g, 0, none⟩ : Addr).add j = ⟨g, 0 + j, none⟩ := by unfold Addr.add; split <;> simp_all
      rw [hadd] at this
      exact this) hlt (by simp; omega) (by simpa using hnc) (by rw [hx]; exact Nat.le_trans hlen (by omega))
    rw [hx, List.length_map] at this
    exact this

theorem join_le (sep : List UInt8) (h : sep.length ≤ 1) (l : List (List UInt8)) (M : Nat) (hM : ∀ x ∈ l, x.length ≤ M) : (Lib.join l sep).length ≤ l.length * (M + 1) := by
  unfold Lib.join
  induction l with
  | nil => simp
  | cons x xs ih =>
    have h1 := ih (fun y hy => hM y (List.mem_cons_of_mem _ hy))
    have h2 := hM x (List.mem_cons_self ..)
    cases xs with
    | nil => simp; omega
    | cons y ys =>
      rw [List.intercalate_cons_cons]
      simp only [List.length_append, List.length_cons] at h1 ⊢
      rw [Nat.add_mul] at h1 ⊢
      rw [Nat.add_mul]
      omega
theorem join_len (s : List UInt8) (r : Int) (m : Bool) (a b c : Nat) (imm : Int) (hs : s.length ≤ 10) (ha : a < 100) (hb : b < 100) (hc : c < 100) (h0 : -9223372036854775808 ≤ imm) (h1 : imm ≤ 9223372036854775807) : (Lib.join (parts s r m a b c imm) [32]).length ≤ 1000 := by
  have hd : ∀ i : Nat, i < 100 → ∀ b : Bool, ∀ x ∈ regP b i, x.length ≤ 21 := by
    intro i hi b x hx
    unfold regP at hx
    split at hx
    · simp only [List.mem_singleton] at hx
      subst hx
      have := dd_len i hi
      rw [regT, Lib.itoa_nonneg]; simp; omega
    · simp at hx
  have hl : (parts s r m a b c imm).length ≤ 5 := by
    have h1 : ∀ (b : Bool) (r : Int), (regP b r).length ≤ 1 := by intro b r; unfold regP; split <;> simp
    have e1 := h1 (hasB r 1) a
    have e2 := h1 (hasB r 2) b
    have e3 := h1 (hasB r 4) c
    cases m <;> simp [parts] <;> omega
  have := join_le [32] (by simp) (parts s r m a b c imm) 21 (by
    intro x hx
    unfold parts at hx
    simp only [List.mem_cons, List.mem_append] at hx
    rcases hx with rfl | ((hx | hx) | hx) | hx
    · omega
    · exact hd a ha _ x hx
    · exact hd b hb _ x hx
    · exact hd c hc _ x hx
    · cases m
      · simp at hx
      · simp at hx
        subst hx
        exact Lib.itoa_length_le imm h0 h1)
  omega

theorem text_at (op imm r : Int) (a b c : Nat) (s : List UInt8) (m k : Bool) (hr : r = 0 ∨ r = 1 ∨ r = 3 ∨ r = 7) (ha : a < 100) (hb : b < 100) (hc : c < 100) (hi0 : -2147483648 ≤ imm) (hi1 : imm ≤ 2147483647) (hs : s.length ≤ 10)
    (hof : ∀ w, Calls Tryd.prog 20 #[.int .i64 op] w fun e w' => e = .returned (.tuple #[.agg #[.string ⟨s.toArray⟩, .int .i64 r, .bool m], .bool k]) ∧ Below w.heap.size w w')
    (W : Int) (hen : ∀ w, Calls Tryd.prog 10 #[.agg #[.int .i64 op, .int .i64 a, .int .i64 b, .int .i64 c, .int .i64 imm]] w fun e w' => e = .returned (.tuple #[.int .i64 W, .int .i64 0]) ∧ Below w.heap.size w w') (w : World)
    (htab : Lib.TabIs Tryd.prog w "internal/strconv.uint64pow10" .u64 Lib.pow10Tab) :
    Calls Tryd.prog 14 #[.agg #[.int .i64 op, .int .i64 a, .int .i64 b, .int .i64 c, .int .i64 imm]] w fun e w' => e = .returned (.string ⟨(Lib.join (parts s r m a b c imm) [32]).toArray⟩) ∧ Below w.heap.size w w' := by
  go_enter Tryd.func14, Tryd.ntmps14
  go_wp2_with (first | (go_at_call 10; refine (hen _).mono ?_; rintro e w2 ⟨rfl, hb⟩; obtain ⟨hk, hb2⟩ := alloc_known hb; clear hb; refine Hid.out ?_))
  refine Lib.hid ?_
  have hlt : w.heap.size < w2.heap.size := (Array.getElem?_eq_some_iff.1 hk).1
  have c0 : w2.cell? ⟨w.heap.size, 0, none⟩ = some (.int .i64 op) := by simp [World.cell?, hk]
  have c1 : w2.cell? ⟨w.heap.size, 1, none⟩ = some (.int .i64 a) := by simp [World.cell?, hk]
  have c2 : w2.cell? ⟨w.heap.size, 2, none⟩ = some (.int .i64 b) := by simp [World.cell?, hk]
  have c3 : w2.cell? ⟨w.heap.size, 3, none⟩ = some (.int .i64 c) := by simp [World.cell?, hk]
  have c4 : w2.cell? ⟨w.heap.size, 4, none⟩ = some (.int .i64 imm) := by simp [World.cell?, hk]
  have HK := Lib.hid hk
  have HB2 := Lib.hid hb2
  clear hk hb2
  go_wp2_with (first | (go_at_call 20; refine (hof _).mono ?_; rintro e w3 ⟨rfl, hb3⟩; refine Hid.out ?_))
  refine Lib.hid ?_
  have hlt3 : w.heap.size < w3.heap.size := Nat.lt_of_lt_of_le hlt hb3.size
  have HK3 := Lib.hid ((hb3.block _ hlt).trans HK.out)
  have c0 : w3.cell? ⟨w.heap.size, 0, none⟩ = some (.int .i64 op) := by simp [World.cell?, HK3.out]
  have c1 : w3.cell? ⟨w.heap.size, 1, none⟩ = some (.int .i64 a) := by simp [World.cell?, HK3.out]
  have c2 : w3.cell? ⟨w.heap.size, 2, none⟩ = some (.int .i64 b) := by simp [World.cell?, HK3.out]
  have c3 : w3.cell? ⟨w.heap.size, 3, none⟩ = some (.int .i64 c) := by simp [World.cell?, HK3.out]
  have HB3 := Lib.hid (HB2.out.trans (hb3.mono (Nat.le_of_lt hlt)))
  clear hb3 c4
  go_wp2_with fail
  have hn : ∀ (i : Nat), i < 100 → (⟨#[114]⟩ ++ ⟨(Lib.decDigits i).toArray⟩ : ByteArray) = ⟨(regT i).toArray⟩ := by
    intro i _
    rw [regT, Lib.itoa_nonneg]
    apply ByteArray.ext
    simp
  obtain ⟨i9, hi9, hz90, hz91, hz92⟩ := info_parts Tryd.info9'
  have la : (Lib.decDigits a).length ≤ 2 := dd_len a ha
  have lb : (Lib.decDigits b).length ≤ 2 := dd_len b hb
  have lc : (Lib.decDigits c).length ≤ 2 := dd_len c hc
  go_loopw [7, 33] (fun v i wr => ∃ (k : Nat) (ps : List (List UInt8)), k ≤ 3 ∧ ((k = 0 ∧ i = .int .i64 0) ∨ (k = 1 ∧ i = .int .i64 1) ∨ (k = 2 ∧ i = .int .i64 2) ∨ (k = 3 ∧ i = .int .i64 3)) ∧ ps.length ≤ k ∧ Hid (ps = regsTo r a b c k) ∧ wr.ownsRow (w3.heap.size + 1) 9 1 v (1 + ps.length) ((s :: ps).map S) ∧
      Below (w3.heap.size + 1) (w3.alloc (.cells #[.string ⟨s.toArray⟩, .int .i64 r, .bool m] 43)) wr) (fun _ i _ => 3 - (intOf i).toNat)
  case atStart => exact ⟨0, [], by omega, .inl ⟨rfl, rfl⟩, by simp, by simp [Hid, regsTo], by have := new1 (w3.alloc (.cells #[.string ⟨s.toArray⟩, .int .i64 r, .bool m] 43)) (S s); simpa [S] using this, (Below.refl _ _).alloc (by simp) _⟩
  case round =>
    obtain ⟨k, ps, hk, hki, hps, HP, hown, hbel⟩ := hrel
    obtain ⟨ao, cap, rfl⟩ := own_shape hown
    have hsz : w3.heap.size + 1 ≤ wr.heap.size := by have := hbel.size; simpa using this
    have HB := Lib.hid hbel
    have HW := Lib.hid hown
    have HL := Lib.hid hps
    clear hown hbel
    have kM : wr.heap[w3.heap.size]? = some (.cells #[.string ⟨s.toArray⟩, .int .i64 r, .bool m] 43) := (HB.out.block w3.heap.size (by simp)).trans (heap_alloc_new w3 _)
    have m1 : wr.cell? ⟨w3.heap.size, 1, none⟩ = some (.int .i64 r) := by simp [World.cell?, kM]
    have m2 : wr.cell? ⟨w3.heap.size, 2, none⟩ = some (.bool m) := by simp [World.cell?, kM]
    have ix0 := idx0 a b c wr
    have ix1 := idx1 a b c wr
    have ix2 := idx2 a b c wr
    clear kM
    obtain ⟨rfl, rfl⟩ | ⟨rfl, rfl⟩ | ⟨rfl, rfl⟩ | ⟨rfl, rfl⟩ := hki
    · cases BB : hasB r 1
      · have bg : (bits BinOp.and IntKind.i64 r 1 == 1) = false := by rw [← BB]; obtain rfl | rfl | rfl | rfl := hr <;> decide
        go_wp2_with fail
        exact ⟨⟨0 + 1, ps, by omega, by simp, by omega, by show _ = _; rw [HP.out]; simp [regsTo, regP, BB], HW.out, HB.out⟩, by decide⟩
      · have bg : (bits BinOp.and IntKind.i64 r 1 == 1) = true := by rw [← BB]; obtain rfl | rfl | rfl | rfl := hr <;> decide
        go_wp2_with (first | (go_at_call 23; refine (Tryd.strconv_Itoa_small a ha _).mono ?_; rintro e w5 ⟨rfl, hw5⟩; obtain rfl := hw5.symm) | (at_builtin; refine wpList_append_lies _ rfl (.tmp 43) (.tmp 47) 50 rfl (w3.heap.size + 1) 9 i9 _ 1 16 Tryd.underlying50 hi9 hz90 hz91 hz92 rfl (by decide) _ (1 + ps.length) _ rfl (HW.out.alloc _) ⟨wr.heap.size, 0, none⟩ 1 1 [.string ⟨(regT a).toArray⟩] rfl rfl (World.news_of_block (cs := #[.string ⟨(regT a).toArray⟩]) (t := 9) (fr := (0, 0)) (heap_alloc_new wr _)) (by simp [Value.oneCell']) (by omega) (by unfold maxLen; omega) (by omega) (by simp; omega) (wr.heap.size + 1) (by simp) ?_; intro gg cp w1 hown1 hgrow hat hlt1; have HG : Hid ((wr.alloc (.cells #[.string ⟨(regT a).toArray⟩] 9)).grownBy w1 (Value.slice ao (1 + ps.length) cap).ownBlock) := hgrow; have HW1 := Lib.hid hown1; clear hown1 hgrow hat))
        exact ⟨⟨0 + 1, ps ++ [regT a], by omega, by simp, by have := HL.out; rw [List.length_append, List.length_singleton]; omega, by show _ = _; rw [HP.out]; simp [regsTo, regP, BB], by have := HW1.out; simpa [S, Nat.add_assoc] using this, (HB.out.alloc (by omega) _).grown HG.out (by simp; omega) (fun g hg => (HW.out.lt g hg).1)⟩, by decide⟩
    · cases BB : hasB r 2
      · have bg : (bits BinOp.and IntKind.i64 (r / 2) 1 == 1) = false := by rw [← BB]; obtain rfl | rfl | rfl | rfl := hr <;> decide
        go_wp2_with fail
        exact ⟨⟨1 + 1, ps, by omega, by simp, by omega, by show _ = _; rw [HP.out]; simp [regsTo, regP, BB], HW.out, HB.out⟩, by decide⟩
      · have bg : (bits BinOp.and IntKind.i64 (r / 2) 1 == 1) = true := by rw [← BB]; obtain rfl | rfl | rfl | rfl := hr <;> decide
        go_wp2_with (first | (go_at_call 23; refine (Tryd.strconv_Itoa_small b hb _).mono ?_; rintro e w5 ⟨rfl, hw5⟩; obtain rfl := hw5.symm) | (at_builtin; refine wpList_append_lies _ rfl (.tmp 43) (.tmp 47) 50 rfl (w3.heap.size + 1) 9 i9 _ 1 16 Tryd.underlying50 hi9 hz90 hz91 hz92 rfl (by decide) _ (1 + ps.length) _ rfl (HW.out.alloc _) ⟨wr.heap.size, 0, none⟩ 1 1 [.string ⟨(regT b).toArray⟩] rfl rfl (World.news_of_block (cs := #[.string ⟨(regT b).toArray⟩]) (t := 9) (fr := (0, 0)) (heap_alloc_new wr _)) (by simp [Value.oneCell']) (by omega) (by unfold maxLen; omega) (by omega) (by simp; omega) (wr.heap.size + 1) (by simp) ?_; intro gg cp w1 hown1 hgrow hat hlt1; have HG : Hid ((wr.alloc (.cells #[.string ⟨(regT b).toArray⟩] 9)).grownBy w1 (Value.slice ao (1 + ps.length) cap).ownBlock) := hgrow; have HW1 := Lib.hid hown1; clear hown1 hgrow hat))
        exact ⟨⟨1 + 1, ps ++ [regT b], by omega, by simp, by have := HL.out; rw [List.length_append, List.length_singleton]; omega, by show _ = _; rw [HP.out]; simp [regsTo, regP, BB], by have := HW1.out; simpa [S, Nat.add_assoc] using this, (HB.out.alloc (by omega) _).grown HG.out (by simp; omega) (fun g hg => (HW.out.lt g hg).1)⟩, by decide⟩
    · cases BB : hasB r 4
      · have bg : (bits BinOp.and IntKind.i64 (r / 4) 1 == 1) = false := by rw [← BB]; obtain rfl | rfl | rfl | rfl := hr <;> decide
        go_wp2_with fail
        exact ⟨⟨2 + 1, ps, by omega, by simp, by omega, by show _ = _; rw [HP.out]; simp [regsTo, regP, BB], HW.out, HB.out⟩, by decide⟩
      · have bg : (bits BinOp.and IntKind.i64 (r / 4) 1 == 1) = true := by rw [← BB]; obtain rfl | rfl | rfl | rfl := hr <;> decide
        go_wp2_with (first | (go_at_call 23; refine (Tryd.strconv_Itoa_small c hc _).mono ?_; rintro e w5 ⟨rfl, hw5⟩; obtain rfl := hw5.symm) | (at_builtin; refine wpList_append_lies _ rfl (.tmp 43) (.tmp 47) 50 rfl (w3.heap.size + 1) 9 i9 _ 1 16 Tryd.underlying50 hi9 hz90 hz91 hz92 rfl (by decide) _ (1 + ps.length) _ rfl (HW.out.alloc _) ⟨wr.heap.size, 0, none⟩ 1 1 [.string ⟨(regT c).toArray⟩] rfl rfl (World.news_of_block (cs := #[.string ⟨(regT c).toArray⟩]) (t := 9) (fr := (0, 0)) (heap_alloc_new wr _)) (by simp [Value.oneCell']) (by omega) (by unfold maxLen; omega) (by omega) (by simp; omega) (wr.heap.size + 1) (by simp) ?_; intro gg cp w1 hown1 hgrow hat hlt1; have HG : Hid ((wr.alloc (.cells #[.string ⟨(regT c).toArray⟩] 9)).grownBy w1 (Value.slice ao (1 + ps.length) cap).ownBlock) := hgrow; have HW1 := Lib.hid hown1; clear hown1 hgrow hat))
        exact ⟨⟨2 + 1, ps ++ [regT c], by omega, by simp, by have := HL.out; rw [List.length_append, List.length_singleton]; omega, by show _ = _; rw [HP.out]; simp [regsTo, regP, BB], by have := HW1.out; simpa [S, Nat.add_assoc] using this, (HB.out.alloc (by omega) _).grown HG.out (by simp; omega) (fun g hg => (HW.out.lt g hg).1)⟩, by decide⟩
    · have hc4 : wr.cell? ⟨w.heap.size, 4, none⟩ = some (.int .i64 imm) := by
        have : wr.heap[w.heap.size]? = _ := (HB.out.block w.heap.size (by omega)).trans ((heap_alloc_old w3 _ hlt3).trans HK3.out)
        simp [World.cell?, this]
      have HBW : Hid (Below w.heap.size w wr) := Lib.hid ((HB3.out.alloc (Nat.le_of_lt hlt3) _).trans (HB.out.mono (by omega)))
      have hpsl := ps_len r a b c ps HP.out
      have HT := Lib.hid (Text.tab_below rfl htab HBW.out)
      clear htab ix0 ix1 ix2 hof hen
      cases m
      · have HJ := Lib.hid (show s :: ps = parts s r false a b c imm by rw [HP.out]; simp [parts, regsTo])
        go_wp2_with (first | (go_at_call 25; refine (join_at wr _ _ (s :: ps) (1 + ps.length) (by simp; omega) (by simp) HW.out (by rw [HJ.out]; exact join_len s r false a b c imm hs ha hb hc (by omega) (by omega)) (by simp; omega)).mono ?_; rintro e w5 ⟨rfl, hb5⟩))
        go_ret
        rw [HJ.out]
        exact ⟨rfl, HBW.out.trans (hb5.mono (by omega))⟩
      · go_wp2_with (first | (go_at_call 24; refine (Tryd.strconv_FormatInt_10 imm (by omega) (by omega) _ HT.out).mono ?_; rintro e w5 ⟨rfl, hw5⟩; refine Hid.out ?_))
        refine Lib.hid ?_
        have hb5 : Below wr.heap.size wr w5 := by obtain ⟨k1, os, rfl⟩ := hw5; exact Lib.below_grow wr.heap.size wr (Nat.le_refl _) k1 os
        have hsz5 : w3.heap.size + 1 ≤ w5.heap.size := Nat.le_trans hsz hb5.size
        have HJ := Lib.hid (show s :: (ps ++ [Lib.itoa imm]) = parts s r true a b c imm by rw [HP.out]; simp [parts, regsTo])
        have HO5 := Lib.hid (own_below HW.out hb5)
        have HB5 := Lib.hid (HBW.out.trans (hb5.mono (by omega)))
        clear hw5 hb5
        go_wp2_with (first | (at_builtin; refine wpList_append_lies _ rfl (.tmp 52) (.tmp 56) 50 rfl (w3.heap.size + 1) 9 i9 _ 1 16 Tryd.underlying50 hi9 hz90 hz91 hz92 rfl (by decide) _ (1 + ps.length) _ rfl (HO5.out.alloc _) ⟨w5.heap.size, 0, none⟩ 1 1 [.string ⟨(Lib.itoa imm).toArray⟩] rfl rfl (World.news_of_block (cs := #[.string ⟨(Lib.itoa imm).toArray⟩]) (t := 9) (fr := (0, 0)) (heap_alloc_new w5 _)) (by simp [Value.oneCell']) (by omega) (by unfold maxLen; omega) (by omega) (by simp; omega) (w5.heap.size + 1) (by simp) ?_; intro gg cp w1 hown1 hgrow hat hlt1; have HG : Hid ((w5.alloc (.cells #[.string ⟨(Lib.itoa imm).toArray⟩] 9)).grownBy w1 (Value.slice ao (1 + ps.length) cap).ownBlock) := hgrow; have HW1 := Lib.hid hown1; clear hown1 hgrow hat; refine Hid.out ?_))
        refine Lib.hid ?_
        have hown2 : w1.ownsRow (w3.heap.size + 1) 9 1 (.slice (some ⟨gg, 0, none⟩) (1 + ps.length + 1) cp) (1 + ps.length + 1) ((s :: (ps ++ [Lib.itoa imm])).map S) := by
          have := HW1.out
          simpa [S] using this
        have HW2 := Lib.hid hown2
        have HB6 := Lib.hid ((HB5.out.alloc (by omega) _).grown HG.out (by simp; omega) (fun g hg => Nat.le_trans (by omega) (HO5.out.lt g hg).1))
        have hsz6 : w3.heap.size + 1 ≤ w1.heap.size := by have := HG.out.size; simp at this; omega
        clear hown2
        go_wp2_with (first | (go_at_call 25; refine (join_at w1 _ _ (s :: (ps ++ [Lib.itoa imm])) (1 + ps.length + 1) (by simp; omega) (by simp) HW2.out (by rw [HJ.out]; exact join_len s r true a b c imm hs ha hb hc (by omega) (by omega)) (by simp; omega)).mono ?_; rintro e w7 ⟨rfl, hb7⟩))
        go_ret
        rw [HJ.out]
        exact ⟨rfl, HB6.out.trans (hb7.mono (by omega))⟩
end Go.Proofs.YtpgooplokmemnaaDoor
