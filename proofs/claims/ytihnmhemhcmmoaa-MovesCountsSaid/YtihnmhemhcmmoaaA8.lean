/- The walk of Sorted: the orderer is laid out. -/
import Derived.Test.YtihnmhemhcmmoaaA7
import Derived.Carry
import Derived.Deep.RegionHeld3
namespace Go.Proofs.Ytihnmhemhcmmoaa
open Go Go.RowKit Go.Maps Go.WideMaps Go.Sort
set_option maxHeartbeats 2000000
set_option maxRecDepth 100000

def MvRow (w : World) (v : Value) (l : List Mv) : Prop := (∃ a c, v = .slice a l.length c ∧ l.length ≤ c ∧ c ≤ maxLen ∧ (l = [] ∨ ∃ b o, a = some ⟨b, o, none⟩ ∧ ∀ (i : Nat) (m : Mv), l[i]? = some m → w.cell? ⟨b, o + i * 2, none⟩ = some (.int .i64 m.tc) ∧ w.cell? ⟨b, o + i * 2 + 1, none⟩ = some (.int .i64 m.frm))) ∧ ∀ m ∈ l, I64 m.tc ∧ I64 m.frm
theorem info45 : (Try.prog.info? 45).map (fun i => (i.zero, i.size, i.bytes)) = some (some (.pointer none), 1, 8) := by kernel_rfl
theorem buildP_cons (m : Mv) (l : List Mv) (b : BS) : buildP (m :: l) b = buildP l (if m.tc = m.frm then b else { ws := b.ws ++ [⟨m.tc, m.frm, false, none⟩], toF := updI b.toF m.tc (some b.ws.length), wants := updI b.wants m.frm (b.wants m.frm ++ [b.ws.length]), reads := updI b.reads m.frm (some (wrap1 ((b.reads m.frm).getD 0 + 1))) }) := rfl
theorem bin0 (w0 : World) : BIn w0 w0.heap.size (w0.heap.size + 1 + 1 + 1) w0.heap.size (w0.heap.size + 1) (w0.heap.size + 1 + 1) [] 0 ((((w0.alloc (.map #[] 0)).alloc (.map #[] 0)).alloc (.map #[] 0)).alloc (.cells #[.slice none 0 0, .map (some w0.heap.size), .map (some (w0.heap.size + 1)), .map (some (w0.heap.size + 1 + 1)), .pointer none, .pointer none, .slice none 0 0] 49)) bs0 := by
  have e1 : (w0.alloc (.map #[] 0)).heap.size = w0.heap.size + 1 := Array.size_push _
  have e2 : ((w0.alloc (.map #[] 0)).alloc (.map #[] 0)).heap.size = w0.heap.size + 1 + 1 := by rw [← e1]; exact Array.size_push _
  have e3 : (((w0.alloc (.map #[] 0)).alloc (.map #[] 0)).alloc (.map #[] 0)).heap.size = w0.heap.size + 1 + 1 + 1 := by rw [← e2]; exact Array.size_push _
  have hB : ∀ (w : World) (o : Obj), Below w.heap.size w (w.alloc o) := fun w o => (Below.refl _ _).alloc (Nat.le_refl _) o
  have t0 := im_any (im_any (im_any (IM.made w0) (hB _ (.map #[] 0))) (hB _ (.map #[] 0))) (hB _ (.cells #[.slice none 0 0, .map (some w0.heap.size), .map (some (w0.heap.size + 1)), .map (some (w0.heap.size + 1 + 1)), .pointer none, .pointer none, .slice none 0 0] 49))
  have t1 := im_any (im_any (IM.made (w0.alloc (.map #[] 0))) (hB _ (.map #[] 0))) (hB _ (.cells #[.slice none 0 0, .map (some w0.heap.size), .map (some (w0.heap.size + 1)), .map (some (w0.heap.size + 1 + 1)), .pointer none, .pointer none, .slice none 0 0] 49))
  have t2 := im_any (IM.made ((w0.alloc (.map #[] 0)).alloc (.map #[] 0))) (hB _ (.cells #[.slice none 0 0, .map (some w0.heap.size), .map (some (w0.heap.size + 1)), .map (some (w0.heap.size + 1 + 1)), .pointer none, .pointer none, .slice none 0 0] 49))
  rw [e1] at t1
  rw [e2] at t2
  have hbo := heap_alloc_new (((w0.alloc (.map #[] 0)).alloc (.map #[] 0)).alloc (.map #[] 0)) (.cells #[.slice none 0 0, .map (some w0.heap.size), .map (some (w0.heap.size + 1)), .map (some (w0.heap.size + 1 + 1)), .pointer none, .pointer none, .slice none 0 0] 49)
  rw [e3] at hbo
  exact
    { bel := (((((Below.refl _ _).alloc (Nat.le_refl _) _).alloc (by omega) _).alloc (by omega) _).alloc (by omega) _)
      bsz := by simp; omega
      pbo := by omega
      pm1 := Nat.le_refl _
      pm2 := by omega
      pm3 := by omega
      pps := by simp
      len := rfl
      nd := by simp
      ob := ⟨_, fun _ => none, hbo, World.ownsRow_nil _ _ _ _, t1, fun c => .inl ⟨rfl, rfl⟩, fun c v g h => (by cases h), fun c c' v v' g h => (by cases h)⟩
      wt := fun i x p h => by simp [bs0] at h
      rd := t2
      tm := t0
      m1 := by omega
      m2 := by omega
      m3 := by omega
      nx := fun i x h => by simp [bs0] at h
      vt := fun c i h => by simp [bs0] at h
      vw := fun c i h => by simp [bs0] at h
      i64 := fun i x h => by simp [bs0] at h }
theorem BIn.done {w0 w : World} {base bo mto mwa mre n : Nat} {ps : List Nat} {b : BS} (h : BIn w0 base bo mto mwa mre ps n w b) : ∃ va fw, In w0 base ⟨bo, mto, mwa, mre, n, ps, b.toF, b.wants, va, fw⟩ n w ⟨b.ws, none, none, b.reads, []⟩ := by
  obtain ⟨va, fw, h1, h2, h3, h4, _⟩ := h.ob
  exact ⟨va, fw,
    { bel := h.bel
      bsz := h.bsz
      pbo := h.pbo
      pre := h.pm3
      pps := h.pps
      len := h.len
      nd := h.nd
      ob := ⟨_, h1, h2, World.ownsRow_nil _ _ _ _⟩
      wt := h.wt
      rd := h.rd
      tm := h.tm
      wm := ⟨h3, h4⟩
      m1 := h.m1
      m2 := h.m2
      vf := fun i h => by cases h
      vl := fun i h => by cases h
      vn := fun i x j hx hj => by rw [h.nx i x hx] at hj; cases hj
      vt := h.vt
      vw := h.vw
      fl := fun h => by cases h
      i64 := h.i64 }⟩
theorem row_cell {w : World} {base : Nat} {ag : Option Addr} {n c : Nat} {xs : List Value} (h : w.ownsRow base 45 1 (.slice ag n c) n xs) (hn : 0 < n) : ∃ g, ag = some ⟨g, 0, none⟩ ∧ ∀ j v, xs[j]? = some v → w.cell? ⟨g, j, none⟩ = some v := by
  have hc := fun g hg => h.cells (g := g) hg
  rcases h.2 with ⟨_, h0⟩ | ⟨g, cap, cur, e, _⟩
  · omega
  · simp only [Value.slice.injEq] at e
    obtain ⟨rfl, _, _⟩ := e
    refine ⟨g, rfl, fun j v hv => ?_⟩
    have := hc g rfl j v hv
    have e : (⟨g, 0, none⟩ : Addr).add j = ⟨g, j, none⟩ := by cases j <;> simp [Addr.add]
    rwa [e] at this
theorem In.rowW {w0 w : World} {base r : Nat} {K : Kit} {s : MS} (h : In w0 base K r w s) (c : Int) : w.ownsRow base 45 1 ((K.fw c).getD (.slice none 0 0)) (K.wants c).length ((K.wants c).map (fun i => pv K.ps (some i))) := by
  rcases h.wm.2 c with ⟨h1, h2⟩ | ⟨v, h1, h2⟩
  · rw [h1, h2]; exact World.ownsRow_nil _ _ _ _
  · rw [h1]; exact h2
theorem In.lookW {w0 w : World} {base r : Nat} {K : Kit} {s : MS} (h : In w0 base K r w s) (c : Int) (hc : I64 c) : (Instr.lookup 43 (.map (some K.mwa)) (.int .i64 c) false).run Try.prog w = .ok ((K.fw c).getD (.slice none 0 0)) w := h.wm.1.look Try.underlying43 (zero44 _) c hc
theorem turnP_out (spare : Int) : ∀ (l : List Nat) (s : MS), (turnP spare l s).out = s.out
  | [], s => rfl
  | x :: l, s => by
    rw [turnP, turnP_out]
    split <;> rfl
theorem turnP_len (spare : Int) : ∀ (l : List Nat) (s : MS), (turnP spare l s).ws.length = s.ws.length
  | [], s => rfl
  | x :: l, s => by
    rw [turnP, turnP_len]
    split
    · rfl
    · simp [MS.setW]
theorem putP_len (s : MS) (i : Nat) : (putP s i).ws.length = s.ws.length := by
  unfold putP
  cases s.first with
  | none => simp [MS.setW]
  | some f => cases s.last <;> simp [MS.setW]
theorem lessP_len (toF : Int → Option Nat) (s : MS) (c : Int) : (lessP toF s c).ws.length = s.ws.length := by
  unfold lessP
  cases toF c with
  | none => rfl
  | some i =>
    dsimp only
    split
    · rw [putP_len]
    · rfl
theorem doesP_len (toF : Int → Option Nat) (s : MS) (i : Nat) : (doesP toF s i).ws.length = s.ws.length := by
  unfold doesP
  rw [lessP_len]
  simp [MS.setW]
theorem goP_len (toF : Int → Option Nat) : ∀ (k : Nat) (s s' : MS), goP toF k s = some s' → s'.ws.length = s.ws.length ∧ s'.out.length ≤ s.out.length + k
  | 0, s, s', h => by cases h
  | k + 1, s, s', h => by
    rw [goP] at h
    cases hf : s.first with
    | none => rw [hf] at h; obtain rfl := Option.some.inj h; exact ⟨rfl, by omega⟩
    | some i =>
      rw [hf] at h
      obtain ⟨h1, h2⟩ := goP_len toF k _ _ h
      rw [doesP_len] at h1
      rw [doesP_out] at h2
      exact ⟨h1, by show s'.out.length ≤ s.out.length + (k + 1); have : ({ s with first := (s.wt i).next } : MS).out = s.out := rfl; rw [this] at h2; omega⟩
theorem sorted15 (w0 : World) (v : Value) (ms l : List Mv) (spare : Int) (k : Nat) (hrow : MvRow w0 v ms) (hsp : I64 spare) (hk : sortedP ms spare k = some l) (hm : ms.length ≤ 1000) (hkk : k ≤ 2000) :
    Calls Try.prog 15 #[v, .int .i64 spare] w0 fun e w' => ∃ u, e = .returned u ∧ w'.ownsRow w0.heap.size 31 2 u l.length (flat l) ∧ Below w0.heap.size w0 w' := by
  obtain ⟨⟨a, c, rfl, hc, hcm, hcells⟩, h64⟩ := hrow
  have hmm := @run_makeMap Try.prog
  have HC := Lib.hid hcells
  have H64 := Lib.hid h64
  have HK := Lib.hid hk
  have HB0 := Lib.hid (bin0 w0)
  obtain ⟨bo, hbo⟩ : ∃ bo, w0.heap.size + 1 + 1 + 1 = bo := ⟨_, rfl⟩
  rw [hbo] at HB0
  have HBO := Lib.hid hbo
  obtain ⟨B, hB⟩ : ∃ B, buildP ms bs0 = B := ⟨_, rfl⟩
  have HBB := Lib.hid hB
  obtain ⟨i9, hi9, hz90, hz91, hz92⟩ := info_parts info45
  obtain ⟨i0, hi0, hz0, hz1, hz2⟩ := info_parts info31
  clear hcells h64 hk hB hbo
  go_enter Try.func15, Try.ntmps15
  go_wp2_with fail
  rw [HBO.out]
  go_loopw [22] (fun iv wr => ∃ (j : Nat) (ps : List Nat) (b : BS), j ≤ ms.length ∧ iv = .int .i64 j ∧ Hid (BIn w0 w0.heap.size bo w0.heap.size (w0.heap.size + 1) (w0.heap.size + 1 + 1) ps (3 * j) wr b ∧ buildP (ms.drop j) b = B ∧ b.ws.length ≤ j ∧ ∀ c, (b.wants c).length ≤ j)) (fun iv _ => ms.length - (intOf iv).toNat)
  case atStart => exact ⟨0, [], bs0, by omega, rfl, Lib.hid ⟨HB0.out, HBB.out, by simp [bs0], fun c => by simp [bs0]⟩⟩
  case round =>
    obtain ⟨j, ps, b, hj, rfl, HR⟩ := hrel
    by_cases hjl : j < ms.length
    · obtain ⟨hbin, hbuild, hbl, hbw⟩ := HR.out
      have hd : ms.drop j = ms[j] :: ms.drop (j + 1) := List.drop_eq_getElem_cons hjl
      obtain ⟨m, hmj⟩ : ∃ m, ms[j] = m := ⟨_, rfl⟩
      rw [hd, hmj, buildP_cons] at hbuild
      have hm6 := H64.out m (by rw [← hmj]; exact List.getElem_mem _)
      rcases HC.out with h0 | ⟨bm, om, rfl, hcell⟩
      · rw [h0] at hjl; simp at hjl
      obtain ⟨g0, g1⟩ := hcell j m (by rw [List.getElem?_eq_getElem hjl, hmj])
      have f0 := hbin.bel.cell (World.block_lt_of_cell? w0 _ g0) |>.trans g0
      have f1 := hbin.bel.cell (World.block_lt_of_cell? w0 _ g1) |>.trans g1
      obtain ⟨t, ht⟩ : ∃ t, m.tc = t := ⟨_, rfl⟩
      obtain ⟨f, hf⟩ : ∃ f, m.frm = f := ⟨_, rfl⟩
      rw [ht] at f0 hbuild hm6
      rw [hf] at f1 hbuild hm6
      have hj0 : (0 : Int) ≤ (j : Int) := by omega
      have hj1 : (j : Int) < (ms.length : Int) := by omega
      have HBIN := Lib.hid hbin
      have HBU := Lib.hid hbuild
      have HBL := Lib.hid hbl
      have HBW := Lib.hid hbw
      have H6 := Lib.hid hm6
      clear hbin hbuild hbl hbw hm6 hd hmj hcell g0 g1 ht hf
      by_cases htf : t = f
      · subst htf
        rw [if_pos rfl] at HBU
        have e0 : (t != t) = false := by simp
        go_wp2_with fail
        exact ⟨⟨j + 1, ps, b, by omega, by go_num, Lib.hid ⟨(HBIN.out.grow ((Below.refl _ _).alloc (Nat.le_refl _) _)).mono (by omega), HBU.out, by have := HBL.out; omega, fun c => by have := HBW.out c; omega⟩⟩, by simp [intOf]; omega⟩
      · rw [if_neg htf] at HBU
        have e0 : (t != f) = true := by simpa using htf
        obtain ⟨va, fw, hob, hrow, _⟩ := HBIN.out.ob
        obtain ⟨ao, cc, rfl⟩ := own_shape hrow
        have d0 : wr.cell? ⟨bo, 0, none⟩ = some (.slice ao ps.length cc) := cell_of hob rfl
        have hlb := lt_of hob
        have HROW := Lib.hid hrow
        have e1 : (wr.alloc (.cells #[.int .i64 t, .int .i64 f] 31)).heap.size = wr.heap.size + 1 := Array.size_push _
        have e2 : ((wr.alloc (.cells #[.int .i64 t, .int .i64 f] 31)).alloc (.cells #[.int .i64 t, .int .i64 f, .bool false, .pointer none] 51)).heap.size = wr.heap.size + 1 + 1 := by rw [← e1]; exact Array.size_push _
        have e3 : (((wr.alloc (.cells #[.int .i64 t, .int .i64 f] 31)).alloc (.cells #[.int .i64 t, .int .i64 f, .bool false, .pointer none] 51)).alloc (.cells #[.pointer (some ⟨wr.heap.size + 1, 0, none⟩)] 45)).heap.size = wr.heap.size + 1 + 1 + 1 := by rw [← e2]; exact Array.size_push _
        have n1 : (((wr.alloc (.cells #[.int .i64 t, .int .i64 f] 31)).alloc (.cells #[.int .i64 t, .int .i64 f, .bool false, .pointer none] 51)).alloc (.cells #[.pointer (some ⟨wr.heap.size + 1, 0, none⟩)] 45)).heap[wr.heap.size]? = some (.cells #[.int .i64 t, .int .i64 f] 31) := (heap_alloc_old _ _ (by omega)).trans ((heap_alloc_old _ _ (by omega)).trans (heap_alloc_new wr _))
        have n2 : (((wr.alloc (.cells #[.int .i64 t, .int .i64 f] 31)).alloc (.cells #[.int .i64 t, .int .i64 f, .bool false, .pointer none] 51)).alloc (.cells #[.pointer (some ⟨wr.heap.size + 1, 0, none⟩)] 45)).heap[wr.heap.size + 1]? = some (.cells #[.int .i64 t, .int .i64 f, .bool false, .pointer none] 51) := (heap_alloc_old _ _ (by omega)).trans (by rw [← e1]; exact heap_alloc_new _ _)
        have n3 : (((wr.alloc (.cells #[.int .i64 t, .int .i64 f] 31)).alloc (.cells #[.int .i64 t, .int .i64 f, .bool false, .pointer none] 51)).alloc (.cells #[.pointer (some ⟨wr.heap.size + 1, 0, none⟩)] 45)).heap[wr.heap.size + 1 + 1]? = some (.cells #[.pointer (some ⟨wr.heap.size + 1, 0, none⟩)] 45) := by rw [← e2]; exact heap_alloc_new _ _
        have hb3 : Below wr.heap.size wr (((wr.alloc (.cells #[.int .i64 t, .int .i64 f] 31)).alloc (.cells #[.int .i64 t, .int .i64 f, .bool false, .pointer none] 51)).alloc (.cells #[.pointer (some ⟨wr.heap.size + 1, 0, none⟩)] 45)) := ((((Below.refl _ _).alloc (Nat.le_refl _) _).alloc (by omega) _).alloc (by omega) _)
        have HN3 := Lib.hid n3
        have HSZ := Lib.hid HBIN.out.bsz
        have HNP := Lib.hid (show ps.length ≤ j from by rw [HBIN.out.len]; exact HBL.out)
        have HADD := Lib.hid (fun (v2 : Value) (w3 : World) (ho : w3.ownsRow w0.heap.size 45 1 v2 (ps.length + 1) (ps.map ptr ++ [ptr (wr.heap.size + 1)])) (hg : (((wr.alloc (.cells #[.int .i64 t, .int .i64 f] 31)).alloc (.cells #[.int .i64 t, .int .i64 f, .bool false, .pointer none] 51)).alloc (.cells #[.pointer (some ⟨wr.heap.size + 1, 0, none⟩)] 45)).grownBy w3 (Value.slice ao ps.length cc).ownBlock) (hat : ∀ g, v2.ownBlock = some g → (Value.slice ao ps.length cc).ownBlock = some g ∨ (((wr.alloc (.cells #[.int .i64 t, .int .i64 f] 31)).alloc (.cells #[.int .i64 t, .int .i64 f, .bool false, .pointer none] 51)).alloc (.cells #[.pointer (some ⟨wr.heap.size + 1, 0, none⟩)] 45)).heap.size ≤ g) => (show _ ∧ w3.heap[wr.heap.size]? = some (.cells #[.int .i64 t, .int .i64 f] 31) from
          ⟨BIn.addWait (HBIN.out.grow hb3) t f H6.out n2 (by have := HBIN.out.bsz; omega) (fun q hq => by
            obtain ⟨i, hi, rfl⟩ := List.mem_iff_getElem.1 hq
            have := HBIN.out.wt i _ _ (List.getElem?_eq_getElem (by rw [← HBIN.out.len]; exact hi)) (List.getElem?_eq_getElem hi)
            have := lt_of this
            omega) ((World.cell?_of_block (w := wr) (hb3.block _ hlb)).trans d0) ho hg hat, by
            refine (hg.block _ (by omega) (fun e => ?_)).trans n1
            have := (hrow.lt _ e.symm).2
            omega⟩))
        clear hob hrow htf e1 e2 e3 n1 n2 n3 hb3
        go_upto_region 8 with (first | (at_builtin; refine wpList_append_lies _ rfl (.tmp 38) (.tmp 40) 44 rfl w0.heap.size 45 i9 _ 1 8 Try.underlying44 hi9 hz90 hz91 hz92 rfl (by decide) _ ps.length _ rfl (((HROW.out.alloc _).alloc _).alloc _) ⟨wr.heap.size + 1 + 1, 0, none⟩ 1 1 [.pointer (some ⟨wr.heap.size + 1, 0, none⟩)] rfl rfl (World.news_of_block (cs := #[.pointer (some ⟨wr.heap.size + 1, 0, none⟩)]) (t := 45) (fr := (0, 0)) HN3.out) (by simp [Value.oneCell']) (by omega) (by have := HNP.out; unfold maxLen; omega) (by have := HNP.out; omega) (by have := HSZ.out; simp; omega) (wr.heap.size + 1 + 1 + 1) (by simp) ?_; intro gg cp w3 hown3 hgrow hat hlt3; obtain ⟨⟨x1, x2, x3, hb4⟩, hq3⟩ := HADD.out _ w3 hown3 hgrow (fun g hg => (by have : gg = g := (by simpa [Value.ownBlock] using hg); subst this; rcases hat with h | h; exact .inl h; exact .inr (by simp; omega))); have HB4 := Lib.hid hb4; have HQ3 := Lib.hid hq3; clear hown3 hgrow hat hb4 hq3))
        obtain ⟨w4, hw4⟩ : ∃ x, w3.setCell ⟨bo, 0, none⟩ (.slice (some ⟨gg, 0, none⟩) (ps.length + 1) cp) = x := ⟨_, rfl⟩
        have hq4 : w4.heap[wr.heap.size]? = some (.cells #[.int .i64 t, .int .i64 f] 31) := by
          rw [← hw4, Below.heap_setCell _ _ _ _ (by show wr.heap.size ≠ bo; omega)]; exact HQ3.out
        rw [hw4] at HB4 ⊢
        obtain ⟨p, hp⟩ : ∃ p, wr.heap.size + 1 = p := ⟨_, rfl⟩
        obtain ⟨q, hq⟩ : ∃ q, wr.heap.size = q := ⟨_, rfl⟩
        rw [hp] at HB4 ⊢
        rw [hq] at hq4 ⊢
        have hpi : (ps ++ [p])[ps.length]? = some p := by simp
        have hpv := pv_some hpi
        have hb4 := HB4.out
        have HLE := Lib.hid hb4.len
        have hidx : ps.length = b.ws.length := HBIN.out.len
        have HIX := Lib.hid hidx
        clear HB4 HADD HN3 HQ3 HROW hw4 hp hq d0 f0 f1 hlb x1 x2 x3
        -- to
        obtain ⟨va4, fw4, hob4, _⟩ := hb4.ob
        have k1 : w4.cell? ⟨bo, 1, none⟩ = some (.map (some w0.heap.size)) := cell_of hob4 rfl
        have r0 : w4.cell? ⟨q, 0, none⟩ = some (.int .i64 t) := cell_of hq4 rfl
        have lb4 := lt_of hob4
        have lq4 := lt_of hq4
        have hd4 := hb4.grow (Below.refl w4.heap.size w4).drew
        obtain ⟨w5, u5, hm5, hg5⟩ := hd4.tm.put Try.underlying42 (by unfold maxLen; omega) t H6.out.1 (pv (ps ++ [p]) (some ps.length))
        have hb5 := hd4.setTo t ps.length (by rw [← HLE.out]; simp) hm5 hg5
        have hq5 := blk_kept (w := w4.drew) hq4 (hd4.tm.block.choose_spec.choose_spec) (fun _ e => by cases e) hg5
        rw [hpv] at u5
        have HB5 := Lib.hid hb5
        have HQ5 := Lib.hid hq5
        clear hob4 hb4 hd4 hm5 hg5 hb5 hq4 hq5
        go_region
        go_upto_region 9 with fail
        -- reads
        have hb5 := HB5.out
        obtain ⟨va5, fw5, hob5, _⟩ := hb5.ob
        have k3 : w5.cell? ⟨bo, 3, none⟩ = some (.map (some (w0.heap.size + 1 + 1))) := cell_of hob5 rfl
        have r1 : w5.cell? ⟨q, 1, none⟩ = some (.int .i64 f) := cell_of HQ5.out rfl
        have lb5 := lt_of hob5
        have lq5 := lt_of HQ5.out
        have hd5 := hb5.grow (Below.refl w5.heap.size w5).drew
        have l9 := hd5.rd.look Try.underlying40 (zero3 _) f H6.out.2
        obtain ⟨rf, hrf⟩ : ∃ rf, (b.reads f).getD 0 = rf := ⟨_, rfl⟩
        have hl9 : (((b.reads f).map (Value.int .i64)).getD (.int .i64 0)) = .int .i64 rf := by rw [← hrf]; cases b.reads f <;> rfl
        rw [hl9] at l9
        obtain ⟨rg, hrg⟩ : ∃ rg, IntKind.i64.wrap (rf + 1) = rg := ⟨_, rfl⟩
        obtain ⟨w6, u9, hm6, hg6⟩ := hd5.rd.put Try.underlying40 (by unfold maxLen; omega) f H6.out.2 (.int .i64 rg)
        have hb6 := hd5.setRd f rg hm6 hg6
        have hq6 := blk_kept (w := w5.drew) HQ5.out (hd5.rd.block.choose_spec.choose_spec) (fun _ e => by cases e) hg6
        have HB6 := Lib.hid hb6
        have HQ6 := Lib.hid hq6
        have HRG := Lib.hid (show wrap1 ((b.reads f).getD 0 + 1) = rg by rw [hrf]; exact hrg)
        clear hob5 hb5 hd5 hm6 hg6 hb6 hq6 hrf hl9 k1 r0 lb4 lq4 u5 HB5 HQ5
        go_region
        go_upto_region 10 with fail
        -- wants
        have hb6 := HB6.out
        obtain ⟨va6, fw6, hob6, _⟩ := hb6.ob
        obtain ⟨fw, ao2, cc2, him, hgd, hrow2, hfun⟩ := hb6.want f ps.length (by rw [← HLE.out]; simp)
        have k2 : w6.cell? ⟨bo, 2, none⟩ = some (.map (some (w0.heap.size + 1))) := cell_of hob6 rfl
        have s1 : w6.cell? ⟨q, 1, none⟩ = some (.int .i64 f) := cell_of HQ6.out rfl
        have lb6 := lt_of hob6
        have lq6 := lt_of HQ6.out
        have la := (im_any him (Below.refl w6.heap.size w6).drew).look Try.underlying43 (zero44 _) f H6.out.2
        have lb := (im_any him ((Below.refl w6.heap.size w6).alloc (Nat.le_refl _) (.cells #[.pointer (some ⟨p, 0, none⟩)] 45)).drew).look Try.underlying43 (zero44 _) f H6.out.2
        rw [hgd] at la lb
        obtain ⟨wl, hwl⟩ : ∃ wl, b.wants f = wl := ⟨_, rfl⟩
        obtain ⟨nw, hnw⟩ : ∃ nw, wl.length = nw := ⟨_, rfl⟩
        simp only [hwl, hnw, hpv] at la lb hrow2 hfun
        have hnwl : nw ≤ 1000000000 := by have := HBW.out f; rw [hwl, hnw] at this; omega
        have HW10 := Lib.hid (fun (v2 : Value) (w7 : World) (ho : w7.ownsRow w0.heap.size 45 1 v2 (nw + 1) (wl.map (fun i => pv (ps ++ [p]) (some i)) ++ [.pointer (some ⟨p, 0, none⟩)])) (hg : (w6.alloc (.cells #[.pointer (some ⟨p, 0, none⟩)] 45)).drew.grownBy w7 (Value.slice ao2 nw cc2).ownBlock) (hat : ∀ g, v2.ownBlock = some g → (Value.slice ao2 nw cc2).ownBlock = some g ∨ g = w6.heap.size + 1) => (show w7.cell? ⟨bo, 2, none⟩ = some (.map (some (w0.heap.size + 1))) ∧ w7.cell? ⟨q, 1, none⟩ = some (.int .i64 f) ∧ bo < w7.heap.size ∧ q < w7.heap.size ∧ ∃ w8, (Instr.mapUpdate 43 (.map (some (w0.heap.size + 1))) (.int .i64 f) v2).run Try.prog w7 = .ok () w8 ∧ w8.cell? ⟨bo, 2, none⟩ = some (.map (some (w0.heap.size + 1))) ∧ w8.cell? ⟨q, 1, none⟩ = some (.int .i64 f) ∧ BIn w0 w0.heap.size bo w0.heap.size (w0.heap.size + 1) (w0.heap.size + 1 + 1) (ps ++ [p]) (3 * j + 1 + 1 + 1) w8 { ws := b.ws ++ [⟨t, f, false, none⟩], toF := updI b.toF t (some b.ws.length), wants := updI b.wants f (b.wants f ++ [b.ws.length]), reads := updI b.reads f (some (wrap1 ((b.reads f).getD 0 + 1))) } from by
          have hg' : w6.grownBy w7 (Value.slice ao2 nw cc2).ownBlock := by
            have h1 : w6.grownBy (w6.alloc (.cells #[.pointer (some ⟨p, 0, none⟩)] 45)).drew (Value.slice ao2 nw cc2).ownBlock := ⟨rfl, rfl, rfl, by show w6.heap.size ≤ (w6.alloc _).heap.size; simp, fun k hk _ => Below.heap_alloc _ _ _ hk⟩
            exact h1.trans hg
          obtain ⟨h1, h2, h3⟩ := hfun v2 w7 ho hg' (fun g hg2 => by
            rcases hat g hg2 with h | h
            · exact .inl h
            · exact .inr (by omega))
          obtain ⟨w8, u8, hm8, hg8⟩ := h1.put Try.underlying43 (by unfold maxLen; omega) f H6.out.2 v2
          have hbo7 := h2 _ _ _ (by decide) hob6
          have hq7 := h2 _ _ _ (by decide) HQ6.out
          refine ⟨cell_of hbo7 rfl, cell_of hq7 rfl, lt_of hbo7, lt_of hq7, w8, u8, cell_of (blk_kept hbo7 h1.block.choose_spec.choose_spec (fun _ e => by cases e) hg8) rfl, cell_of (blk_kept hq7 h1.block.choose_spec.choose_spec (fun _ e => by cases e) hg8) rfl, ?_⟩
          have h9 := h3 w8 hm8 hg8
          rw [HRG.out, ← HIX.out, hwl]
          exact h9))
        have HROW2 := Lib.hid hrow2
        have HB6S := Lib.hid hb6.bsz
        have HNW := Lib.hid hnwl
        clear hb6 hob6 him hgd hrow2 hfun HB6 HQ6 u9 l9 k3 r1 lb5 lq5 hwl hnw hnwl hpi
        have HSA := Lib.hid (show (w6.alloc (.cells #[.pointer (some ⟨p, 0, none⟩)] 45)).drew.cell? ⟨bo, 2, none⟩ = some (.map (some (w0.heap.size + 1))) ∧ (w6.alloc (.cells #[.pointer (some ⟨p, 0, none⟩)] 45)).drew.cell? ⟨q, 1, none⟩ = some (.int .i64 f) from ⟨(World.cell?_of_block (w := w6) (Below.heap_alloc _ _ _ lb6)).trans k2, (World.cell?_of_block (w := w6) (Below.heap_alloc _ _ _ lq6)).trans s1⟩)
        go_region_held3 (fun w' => w'.cell? ⟨bo, 2, none⟩ = some (.map (some (w0.heap.size + 1))) ∧ w'.cell? ⟨q, 1, none⟩ = some (.int .i64 f)) (first | exact ⟨k2, s1⟩ | exact HSA.out | exact ⟨y1, y2⟩ | exact ⟨z1, z2⟩) (first | (refine step_append_lies _ (by rfl) _ _ _ (by rfl) w0.heap.size 45 i9 _ 1 8 Try.underlying44 hi9 hz90 hz91 hz92 rfl (by decide) _ nw (wl.map (fun i => pv (ps ++ [p]) (some i))) (by rfl) ((HROW2.out.alloc _).drew) ⟨w6.heap.size, 0, none⟩ 1 1 [.pointer (some ⟨p, 0, none⟩)] (by rfl) (by rfl) (World.news_of_block (cs := #[.pointer (some ⟨p, 0, none⟩)]) (t := 45) (fr := (0, 0)) (heap_alloc_new w6 _)) (by simp [Value.oneCell']) (by omega) (by have := HNW.out; unfold maxLen; omega) (by have := HNW.out; omega) (by have := HB6S.out; simp; omega) (w6.heap.size + 1) (by simp) ?_; intro gg7 cp7 w7 hown7 hgrow7 hat7 hlt7; obtain ⟨y1, y2, y3, y4, w8, u8, z1, z2, hb8⟩ := HW10.out _ w7 hown7 hgrow7 (fun g hg => (by have : gg7 = g := (by simpa [Value.ownBlock] using hg); subst this; exact hat7)); have HB8 := Lib.hid hb8; clear hown7 hgrow7 hat7 hb8))
        all_goals
          go_wp2_with fail
          exact ⟨⟨j + 1, ps ++ [p], _, by omega, by go_num, Lib.hid ⟨HB8.out.mono (by omega), HBU.out, by have := HBL.out; simp; omega, fun c => by have := HBW.out c; have := HBW.out f; simp only [updI]; split <;> simp <;> omega⟩⟩, by simp [intOf]; omega⟩
    · obtain rfl : j = ms.length := by omega
      obtain ⟨hbin, hbuild, hbl, _⟩ := HR.out
      rw [List.drop_length, buildP] at hbuild
      subst hbuild
      obtain ⟨va, fw, hin⟩ := hbin.done
      have hnn : ps.length = b.ws.length := hbin.len
      obtain ⟨n, hn⟩ : ∃ n, b.ws.length = n := ⟨_, rfl⟩
      have hk := HK.out
      unfold sortedP at hk
      rw [HBB.out] at hk
      dsimp only at hk
      rw [hn] at hk hnn hbl
      obtain ⟨S1, hS1⟩ : ∃ S1, freeP (List.range n) ⟨b.ws, none, none, b.reads, []⟩ = S1 := ⟨_, rfl⟩
      rw [hS1] at hk
      cases hgo : goP b.toF k S1 with
      | none => rw [hgo] at hk; cases hk
      | some s1 =>
        rw [hgo] at hk
        dsimp only at hk
        obtain ⟨s3, hrs, hout⟩ := Option.map_eq_some_iff.1 hk
        obtain ⟨vo0, hob, hrow, _⟩ := hin.ob
        obtain ⟨ag, cc, hva⟩ := own_shape hrow
        obtain ⟨K, hK⟩ : ∃ K : Kit, K = ⟨bo, w0.heap.size, w0.heap.size + 1, w0.heap.size + 1 + 1, 3 * ms.length, ps, b.toF, b.wants, va, fw⟩ := ⟨_, rfl⟩
        have hKb : K.bo = bo := by rw [hK]
        have hKm : K.mre = w0.heap.size + 1 + 1 := by rw [hK]
        have hKw : K.mwa = w0.heap.size + 1 := by rw [hK]
        have hKp : K.ps = ps := by rw [hK]
        have hKt : K.toF = b.toF := by rw [hK]
        have hKa : K.wants = b.wants := by rw [hK]
        have hva2 : va = .slice ag ps.length cc := hva
        have hKv : K.va = .slice ag n cc := by rw [hK, ← hnn]; exact hva2
        rw [← hK] at hin
        rw [← hKt] at hgo hrs
        rw [← hKa] at hrs
        have c0 : wr.cell? ⟨bo, 0, none⟩ = some (.slice ag n cc) := by have h0 := cell_of (i := 0) hob rfl; rw [← hKv, hK]; exact h0
        have HIN := Lib.hid hin
        have HGO := Lib.hid hgo
        have HRS := Lib.hid hrs
        have HOUT := Lib.hid hout
        have HS1 := Lib.hid hS1
        have HPN := Lib.hid (show K.ps.length = n by rw [hKp]; exact hnn)
        have HN := Lib.hid hn
        have HKB := Lib.hid hKb
        have HKM := Lib.hid hKm
        have HKW := Lib.hid hKw
        have HKV := Lib.hid hKv
        have HNM := Lib.hid (show n ≤ ms.length from hbl)
        clear hbin hbl hin hk hgo hrs hout hS1 hob hrow hva hva2 hK hKb hKm hKw hKp hKt hKa hKv hnn hn HB0 HC H64 HBB HR hmm
        go_wp2_with fail
        -- the second loop
        go_loopw [81] (fun iv wx => ∃ (i : Nat) (s : MS), i ≤ n ∧ iv = .int .i64 i ∧ Hid (In w0 w0.heap.size K (3 * ms.length) wx s ∧ freeP ((List.range n).drop i) s = S1 ∧ s.ws.length = n ∧ s.out = [])) (fun iv _ => n - (intOf iv).toNat)
        case atStart => exact ⟨0, _, by omega, rfl, Lib.hid ⟨HIN.out, HS1.out, HN.out, rfl⟩⟩
        case round =>
          obtain ⟨i, s, hi, rfl, HR⟩ := hrel
          by_cases hil : i < n
          · obtain ⟨hin, hfr, hsl, hso⟩ := HR.out
            have hd : (List.range n).drop i = i :: (List.range n).drop (i + 1) := by rw [List.drop_eq_getElem_cons (by simpa using hil)]; simp
            rw [hd, freeP] at hfr
            have his : i < s.ws.length := by rw [hsl]; exact hil
            obtain ⟨p, hp, hpb⟩ := hin.block his
            obtain ⟨vo, hob, hrow, _⟩ := hin.ob
            rw [HPN.out, HKV.out] at hrow
            obtain ⟨g, rfl, hcl⟩ := row_cell hrow (by omega)
            rw [HKB.out, HKM.out] at hob
            have hi0 : (0 : Int) ≤ (i : Int) := by omega
            have hi1 : (i : Int) < (n : Int) := by omega
            have e0 : wr.cell? ⟨g, i, none⟩ = some (.pointer (some ⟨p, 0, none⟩)) := hcl i _ (by simp [hp, ptr])
            have k3 : wr.cell? ⟨bo, 3, none⟩ = some (.map (some (w0.heap.size + 1 + 1))) := cell_of hob rfl
            obtain ⟨t, ht⟩ : ∃ t, (s.wt i).tc = t := ⟨_, rfl⟩
            have p0 : wr.cell? ⟨p, 0, none⟩ = some (.int .i64 t) := by have h0 : wr.cell? ⟨p, 0, none⟩ = some (.int .i64 (s.wt i).tc) := cell_of hpb rfl; rwa [ht] at h0
            have h6 := (hin.i64 i _ (MS.wt_get his)).1
            rw [ht] at h6
            have c3 := cell_regrown k3
            have c0 := cell_regrown p0
            obtain ⟨rt, hrt⟩ : ∃ rt, s.rd t = rt := ⟨_, rfl⟩
            have l1 := fun dd os => (show (Instr.lookup 40 (.map (some (w0.heap.size + 1 + 1))) (.int .i64 t) false).run Try.prog (grow (redrawn wr dd) os) = .ok (.int .i64 rt) (grow (redrawn wr dd) os) from by
              have h := (hin.grow (below_regrown wr dd os)).lookR t h6
              rwa [HKM.out, hrt] at h)
            rw [ht, hrt] at hfr
            have HPU := Lib.hid (fun dd os => put18 (hin.grow (below_regrown wr dd os)) his)
            rw [pv_some hp, HKB.out] at HPU
            have HD1 := Lib.hid (fun dd os => hin.grow (below_regrown wr dd os))
            have HFR := Lib.hid hfr
            have HSL := Lib.hid hsl
            have HSO := Lib.hid hso
            have hnb : n ≤ 1000 := Nat.le_trans HNM.out hm
            clear hin hfr hsl hso hd his hp hpb hob hrow hcl ht h6 hrt HR k3 p0
            go_upto_region 15 with fail
            clear e0
            by_cases h0 : rt = 0
            · subst h0
              refine wp_region_quiet_below (by kernel_rfl) (by kernel_rfl) ?_; go_big_quiet_step (fail); go_big_quiet_step (fail); go_big_quiet_step (fail); go_big_quiet_step (fail); go_big_quiet_step (fail); go_big_quiet_step (fail); go_big_quiet_step (fail); go_big_quiet_step (fail); go_big_quiet_step (fail); go_big_quiet_step (fail); go_big_quiet_step (fail); refine wpQuiet_nil ?_; intro _ hw'; obtain ⟨⟨dq, osq⟩, hw''⟩ := hw'; subst hw''
              go_wp2_with (first | (go_at_call 18; refine (HPU.out dq osq).mono ?_; rintro e w5 ⟨rfl, hin5⟩; have HIN5 := Lib.hid hin5; clear hin5))
              exact ⟨⟨i + 1, _, by omega, by go_num, Lib.hid ⟨HIN5.out, HFR.out, by rw [putP_len]; exact HSL.out, by rw [putP_out]; exact HSO.out⟩⟩, by simp [intOf]; omega⟩
            · have e1 : (rt == 0) = false := by simpa using h0
              rw [e1] at HFR
              clear h0
              refine wp_region_quiet_below (by kernel_rfl) (by kernel_rfl) ?_; go_big_quiet_step (fail); go_big_quiet_step (fail); go_big_quiet_step (fail); go_big_quiet_step (fail); go_big_quiet_step (fail); go_big_quiet_step (fail); go_big_quiet_step (fail); go_big_quiet_step (fail); go_big_quiet_step (fail); go_big_quiet_step (fail); go_big_quiet_step (fail); refine wpQuiet_nil ?_; intro _ hw'; obtain ⟨⟨dq, osq⟩, hw''⟩ := hw'; subst hw''
              go_wp2_with fail
              exact ⟨⟨i + 1, _, by omega, by go_num, Lib.hid ⟨HD1.out dq osq, HFR.out, HSL.out, HSO.out⟩⟩, by simp [intOf]; omega⟩
          · obtain rfl : i = n := by omega
            obtain ⟨hin, hfr, hsl, hso⟩ := HR.out
            rw [List.drop_eq_nil_of_le (by simp), freeP] at hfr
            subst hfr
            have HG := Lib.hid (go19 k hin HGO.out (by unfold maxLen; omega) (by rw [hso]; simp; omega))
            rw [HKB.out] at HG
            obtain ⟨hl1, hl2⟩ := goP_len _ _ _ _ HGO.out
            rw [hsl] at hl1
            rw [hso] at hl2
            have HL1 := Lib.hid hl1
            have HL2 := Lib.hid (show s1.out.length ≤ k by simpa using hl2)
            clear hin hsl hso hl1 hl2 HGO HR HS1 HIN
            go_wp2_with (first | (go_at_call 19; refine HG.out.mono ?_; rintro e w6 ⟨rfl, r6, hr6, hin6⟩; refine Hid.out ?_))
            refine Lib.hid ?_
            obtain ⟨vo6, hob6, _⟩ := hin6.ob
            rw [HKV.out, HKB.out] at hob6
            have d0 : w6.cell? ⟨bo, 0, none⟩ = some (.slice ag i cc) := cell_of hob6 rfl
            have HIN6 := Lib.hid hin6
            have HR6 := Lib.hid hr6
            clear hob6 hin6 hr6 HG
            go_wp2_with fail
            go_loopw [109] (fun iv wx => ∃ (j : Nat) (s : MS) (r : Nat), j ≤ i ∧ iv = .int .i64 j ∧ Hid (In w0 w0.heap.size K r wx s ∧ ringsP K.toF K.wants spare k ((List.range i).drop j) s = some s3 ∧ s.ws.length = i ∧ r ≤ 3 * ms.length + k + j * (k + 1) ∧ s.out.length ≤ k + j * (k + 1))) (fun iv _ => i - (intOf iv).toNat)
            case atStart => exact ⟨0, s1, r6, by omega, rfl, Lib.hid ⟨HIN6.out, HRS.out, HL1.out, by have := HR6.out; omega, by have := HL2.out; omega⟩⟩
            case round =>
              clear HIN6 HR6 HL1 HL2 d0 HRS
              obtain ⟨j, s, r, hj, rfl, HR⟩ := hrel
              by_cases hjl' : j < i
              · obtain ⟨hin, hrg, hsl, hrr, hoo⟩ := HR.out
                have hnb : i ≤ 1000 := Nat.le_trans HNM.out hm
                have hd : (List.range i).drop j = j :: (List.range i).drop (j + 1) := by rw [List.drop_eq_getElem_cons (by simpa using hjl')]; simp
                rw [hd, ringsP] at hrg
                have his : j < s.ws.length := by rw [hsl]; exact hjl'
                obtain ⟨p, hp, hpb⟩ := hin.block his
                obtain ⟨vo, hob, hrow, hout⟩ := hin.ob
                rw [HPN.out, HKV.out] at hrow
                obtain ⟨g, rfl, hcl⟩ := row_cell hrow (by omega)
                have hj0 : (0 : Int) ≤ (j : Int) := by omega
                have hj1 : (j : Int) < (i : Int) := by omega
                have e0 : wr.cell? ⟨g, j, none⟩ = some (.pointer (some ⟨p, 0, none⟩)) := hcl j _ (by simp [hp, ptr])
                have hmul : j * (k + 1) ≤ 1000 * 2001 := Nat.mul_le_mul (by omega) (by omega)
                have hmul2 : (j + 1) * (k + 1) = j * (k + 1) + (k + 1) := by rw [Nat.add_mul]; omega
                obtain ⟨t, ht⟩ : ∃ t, (s.wt j).tc = t := ⟨_, rfl⟩
                have p0 : wr.cell? ⟨p, 0, none⟩ = some (.int .i64 t) := by have h0 : wr.cell? ⟨p, 0, none⟩ = some (.int .i64 (s.wt j).tc) := cell_of hpb rfl; rwa [ht] at h0
                have p2 : wr.cell? ⟨p, 2, none⟩ = some (.bool (s.wt j).done) := cell_of hpb rfl
                have h6 := (hin.i64 j _ (MS.wt_get his)).1
                rw [ht] at h6
                have hpv := pv_some hp
                obtain ⟨ao, co, rfl⟩ := own_shape hout
                obtain ⟨no, hno⟩ : ∃ no, s.out.length = no := ⟨_, rfl⟩
                have d6 : wr.cell? ⟨bo, 6, none⟩ = some (.slice ao no co) := by rw [← hno]; have h0 := cell_of (i := 6) hob rfl; rw [HKB.out] at h0; exact h0
                have lbo : bo < wr.heap.size := by have := lt_of hob; rwa [HKB.out] at this
                cases hdn : (s.wt j).done with
                | true =>
                  rw [hdn] at p2
                  rw [ringP, if_pos hdn] at hrg
                  have HNX := Lib.hid hin
                  have HRG := Lib.hid hrg
                  have HSL := Lib.hid hsl
                  have HBD := Lib.hid (show r ≤ 3 * ms.length + k + (j + 1) * (k + 1) ∧ s.out.length ≤ k + (j + 1) * (k + 1) by omega)
                  clear hin hrg hsl hrr hoo hd his hp hpb hob hrow hcl ht h6 hpv hout hno HR hdn hmul hmul2
                  go_wp2_with fail
                  exact ⟨⟨j + 1, s, r, by omega, by go_num, Lib.hid ⟨HNX.out, HRG.out, HSL.out, HBD.out⟩⟩, by simp [intOf]; omega⟩
                | false =>
                  rw [hdn] at p2
                  have hrg2 : ∃ s4, goP K.toF k (putP { turnP spare (K.wants t) { s with out := s.out ++ [⟨spare, t⟩] } with reads := updI (turnP spare (K.wants t) { s with out := s.out ++ [⟨spare, t⟩] }).reads ((turnP spare (K.wants t) { s with out := s.out ++ [⟨spare, t⟩] }).wt j).tc (some 0) } j) = some s4 ∧ ringsP K.toF K.wants spare k ((List.range i).drop (j + 1)) s4 = some s3 := by
                    rw [ringP, if_neg (by rw [hdn]; decide)] at hrg
                    dsimp only at hrg
                    rw [ht] at hrg
                    split at hrg
                    · cases hrg
                    · exact ⟨_, by assumption, hrg⟩
                  obtain ⟨s4, hgp, hrg4⟩ := hrg2
                  clear hrg
                  obtain ⟨T2, hT2⟩ : ∃ T2, turnP spare (K.wants t) { s with out := s.out ++ [⟨spare, t⟩] } = T2 := ⟨_, rfl⟩
                  rw [hT2] at hgp
                  have hT2l : T2.ws.length = i := by rw [← hT2, turnP_len]; exact hsl
                  have hT2o : T2.out.length = no + 1 := by rw [← hT2, turnP_out]; simp [hno]
                  have hal := hin.grow ((Below.refl wr.heap.size wr).alloc (Nat.le_refl _) (.cells #[.int .i64 spare, .int .i64 t] 31)).drew
                  have HP0 := Lib.hid (show (wr.alloc (.cells #[.int .i64 spare, .int .i64 t] 31)).drew.cell? ⟨p, 0, none⟩ = some (.int .i64 t) from (World.cell?_of_block (w := wr) (Below.heap_alloc _ _ _ (lt_of hpb))).trans p0)
                  have hpa : (wr.alloc (.cells #[.int .i64 spare, .int .i64 t] 31)).drew.heap[p]? = some (.cells (wcell K.ps (s.wt j)) 51) := (Below.heap_alloc _ _ _ (lt_of hpb)).trans hpb
                  rw [hno] at hout
                  have hd6 : (wr.alloc (.cells #[.int .i64 spare, .int .i64 t] 31)).drew.cell? ⟨K.bo, 6, none⟩ = some (.slice ao no co) := by rw [HKB.out]; exact (World.cell?_of_block (w := wr) (Below.heap_alloc _ _ _ lbo)).trans d6
                  have HOG := Lib.hid (fun (v2 : Value) (w2 : World) (hown : w2.ownsRow w0.heap.size 31 2 v2 (no + 1) (flat s.out ++ [.int .i64 spare, .int .i64 t])) (hg : ((wr.alloc (.cells #[.int .i64 spare, .int .i64 t] 31)).drew).grownBy w2 (Value.slice ao no co).ownBlock) => (show w2.cell? ⟨bo, 6, none⟩ = some (.slice ao no co) ∧ bo < w2.heap.size ∧ (∀ i, w2.frozen? ⟨bo, i, none⟩ = false) ∧ w2.cell? ⟨p, 0, none⟩ = some (.int .i64 t) ∧ (w2.setCell ⟨bo, 6, none⟩ v2).cell? ⟨p, 0, none⟩ = some (.int .i64 t) ∧ In w0 w0.heap.size K r (w2.setCell ⟨bo, 6, none⟩ v2) { s with out := s.out ++ [⟨spare, t⟩] } from by
                    subst hno
                    obtain ⟨g1, g2, g3, g4, g5⟩ := hal.outGrown ⟨spare, t⟩ hd6 hown hg
                    rw [HKB.out] at g1 g2 g3 g4
                    have hp2 := g5 (by decide) hpa
                    have hne : p ≠ bo := by rw [← HKB.out]; exact ne_typ hpb hob (by decide)
                    have hp3 : w2.cell? ⟨p, 0, none⟩ = some (.int .i64 t) := by rw [← ht]; exact cell_of hp2 rfl
                    exact ⟨g1, g2, g3, hp3, (World.cell?_of_block (w := w2) (Below.heap_setCell _ _ _ _ hne)).trans hp3, g4⟩))
                  have HP6 := Lib.hid (show (wr.alloc (.cells #[.int .i64 spare, .int .i64 t] 31)).drew.cell? ⟨bo, 6, none⟩ = some (.slice ao no co) by rw [← HKB.out]; exact hd6)
                  have HROW := Lib.hid hout
                  have HSB := Lib.hid hin.bsz
                  have HNO := Lib.hid (show no ≤ 1000000000 by rw [← hno]; omega)
                  have HJ := Lib.hid (show j < i ∧ K.ps[j]? = some p from ⟨hjl', hp⟩)
                  have HGP := Lib.hid hgp
                  have HRG4 := Lib.hid hrg4
                  have HT2 := Lib.hid hT2
                  have HTL := Lib.hid hT2l
                  have HTO := Lib.hid hT2o
                  have HSL := Lib.hid hsl
                  have HPV := Lib.hid hpv
                  have HT := Lib.hid ht
                  have H6 := Lib.hid h6
                  have HBD := Lib.hid (show r + 1 + k ≤ 3 * ms.length + k + (j + 1) * (k + 1) ∧ no + 1 + k ≤ k + (j + 1) * (k + 1) ∧ r + 1 + k < maxLen ∧ no + 1 + k ≤ 1000000000 ∧ r < maxLen by rw [← hno]; unfold maxLen; omega)
                  clear hin hgp hrg4 hT2 hT2l hT2o hsl hrr hoo hd his hp hpb hob hrow hcl ht h6 hpv hout hno HR hdn hmul hmul2 hal hpa hd6
                  go_upto_region 23 with fail
                  go_cut [4] (fun x wx => x = .slice none 0 0 ∧ In w0 w0.heap.size K r wx { s with out := s.out ++ [⟨spare, t⟩] })
                  case first =>
                    go_region_law (first | (refine step_append_lies _ (by rfl) _ _ _ (by rfl) w0.heap.size 31 i0 _ 2 16 Try.underlying22 hi0 hz0 hz1 hz2 rfl (by decide) _ no (flat s.out) (by rfl) ((HROW.out.alloc _).drew) ⟨wr.heap.size, 0, none⟩ 1 1 [.int .i64 spare, .int .i64 t] (by rfl) (by rfl) (World.news_of_block (cs := #[.int .i64 spare, .int .i64 t]) (t := 31) (fr := (0, 0)) (heap_alloc_new wr _)) (by simp [Value.oneCell']) (by omega) (by have := HNO.out; unfold maxLen; omega) (by have := HNO.out; omega) (by have := HSB.out; simp; omega) (wr.heap.size + 1) (by simp) ?_; intro gg cap w2 hown2 hgrow hat hlt2; obtain ⟨b1, b2, b3, b4, b5, hin2⟩ := HOG.out _ w2 hown2 hgrow; have HIN2 := Lib.hid hin2; clear hown2 hgrow hat hlt2 hin2))
                    all_goals
                      go_wp2_with fail
                      go_meet
                      case rel => exact ⟨rfl, HIN2.out⟩
                  case rest =>
                    obtain ⟨rfl, hA⟩ := hcut
                    obtain ⟨voA, hobA, _⟩ := hA.ob
                    rw [HKB.out, HKM.out, HKW.out] at hobA
                    have k2 : wc.cell? ⟨bo, 2, none⟩ = some (.map (some (w0.heap.size + 1))) := cell_of hobA rfl
                    have hpbA := hA.wt j (s.wt j) p (MS.wt_get (by rw [HSL.out]; exact HJ.out.1)) HJ.out.2
                    have p0A : wc.cell? ⟨p, 0, none⟩ = some (.int .i64 t) := by rw [← HT.out]; exact cell_of hpbA rfl
                    have hrowW := hA.rowW t
                    obtain ⟨m, hm2⟩ : ∃ m, (K.wants t).length = m := ⟨_, rfl⟩
                    obtain ⟨agw, ccw, hvw⟩ := own_shape hrowW
                    rw [hm2] at hvw
                    have HVW := Lib.hid hvw
                    have HM2 := Lib.hid hm2
                    have ck2 := cell_regrown k2
                    have cp0 := cell_regrown p0A
                    have lw := fun dd os => (show (Instr.lookup 43 (.map (some (w0.heap.size + 1))) (.int .i64 t) false).run Try.prog (grow (redrawn wc dd) os) = .ok (.slice agw m ccw) (grow (redrawn wc dd) os) from by
                      have h := (hA.grow (below_regrown wc dd os)).lookW t H6.out
                      rwa [HKW.out, hvw] at h)
                    have HAG := Lib.hid (fun dd os => hA.grow (below_regrown wc dd os))
                    clear hA hobA k2 hpbA p0A hrowW hm2 hvw HOG HP0 HP6 p0 p2 d6 lbo
                    go_upto_region 24 with fail
                    refine wp_region_quiet_below (by kernel_rfl) (by kernel_rfl) ?_; go_big_quiet_step (fail); go_big_quiet_step (fail); go_big_quiet_step (fail); go_big_quiet_step (fail); go_big_quiet_step (fail); go_big_quiet_step (fail); go_big_quiet_step (fail); go_big_quiet_step (fail); go_big_quiet_step (fail); go_big_quiet_step (fail); go_big_quiet_step (fail); go_big_quiet_step (fail); refine wpQuiet_nil ?_; intro _ hw'; obtain ⟨⟨dq, osq⟩, hw''⟩ := hw'; subst hw''
                    go_wp2_with fail
                    go_loopw [144] (fun iv wx => ∃ (q : Nat) (s' : MS), q ≤ m ∧ iv = .int .i64 q ∧ Hid (In w0 w0.heap.size K r wx s' ∧ turnP spare ((K.wants t).drop q) s' = T2 ∧ s'.ws.length = i)) (fun iv _ => m - (intOf iv).toNat)
                    case atStart => exact ⟨0, _, by omega, rfl, Lib.hid ⟨HAG.out dq osq, HT2.out, HSL.out⟩⟩
                    case round =>
                      obtain ⟨q, s', hq, rfl, HR4⟩ := hrel
                      by_cases hqm : q < m
                      · obtain ⟨hin', htn, hsl'⟩ := HR4.out
                        have hqk : q < (K.wants t).length := by rw [HM2.out]; exact hqm
                        obtain ⟨x, hx⟩ : ∃ x, (K.wants t)[q] = x := ⟨_, rfl⟩
                        rw [List.drop_eq_getElem_cons hqk, hx, turnP] at htn
                        have hxl : x < s'.ws.length := hin'.vw t x (by rw [← hx]; exact List.getElem_mem _)
                        obtain ⟨px, hpx, hpxb⟩ := hin'.block hxl
                        have hrw := hin'.rowW t
                        rw [HM2.out, HVW.out] at hrw
                        obtain ⟨gw, rfl, hcw⟩ := row_cell hrw (by omega)
                        have hq0 : (0 : Int) ≤ (q : Int) := by omega
                        have hq1 : (q : Int) < (m : Int) := by omega
                        have e1 : wr.cell? ⟨gw, q, none⟩ = some (.pointer (some ⟨px, 0, none⟩)) := hcw q _ (by rw [List.getElem?_map, List.getElem?_eq_getElem hqk, hx]; show some (pv K.ps (some x)) = _; rw [pv_some hpx])
                        have hmb : m ≤ 9223372036854775807 := by
                          have h1 := hrw.2
                          rcases h1 with ⟨h1, _⟩ | ⟨g', cap', cur', e', _, _, h2, h3, _⟩
                          · cases h1
                          · unfold maxLen at h3; omega
                        have x2 : wr.cell? ⟨px, 2, none⟩ = some (.bool (s'.wt x).done) := cell_of hpxb rfl
                        have x1 : wr.cell? ⟨px, 1, none⟩ = some (.int .i64 (s'.wt x).frm) := cell_of hpxb rfl
                        have fx := thaw_of hpxb
                        have lx := lt_of hpxb
                        have h6x := (hin'.i64 x _ (MS.wt_get hxl)).1
                        have hset := hin'.setWt hxl hpx 1 (.int .i64 spare) { s'.wt x with frm := spare } rfl (fun l hl => hin'.vn x _ l (MS.wt_get hxl) hl) ⟨h6x, hsp⟩
                        have HSET := Lib.hid hset
                        have HIN' := Lib.hid hin'
                        have HTN := Lib.hid htn
                        have HSL' := Lib.hid hsl'
                        cases hdx : (s'.wt x).done with
                        | true =>
                          rw [hdx] at x2 HTN
                          rw [if_pos rfl] at HTN
                          clear hin' htn hsl' hqk hx hxl hpx hpxb hrw hcw h6x hset hdx HR4
                          go_wp2_with fail
                          exact ⟨⟨q + 1, s', by omega, by go_num, Lib.hid ⟨HIN'.out, HTN.out, HSL'.out⟩⟩, by simp [intOf]; omega⟩
                        | false =>
                          rw [hdx] at x2 HTN
                          rw [if_neg (by decide)] at HTN
                          clear hin' htn hsl' hqk hx hxl hpx hpxb hrw hcw h6x hset hdx HR4
                          go_wp2_with fail
                          exact ⟨⟨q + 1, _, by omega, by go_num, Lib.hid ⟨HSET.out, HTN.out, by simp [MS.setW]; exact HSL'.out⟩⟩, by simp [intOf]; omega⟩
                      · obtain ⟨hin', htn, hsl'⟩ := HR4.out
                        rw [List.drop_eq_nil_of_le (by rw [HM2.out]; omega), turnP] at htn
                        subst htn
                        have hjT : j < s'.ws.length := by rw [hsl']; exact HJ.out.1
                        have hpT := hin'.wt j (s'.wt j) p (MS.wt_get hjT) HJ.out.2
                        obtain ⟨t2, ht2⟩ : ∃ x, (s'.wt j).tc = x := ⟨_, rfl⟩
                        have p0T : wr.cell? ⟨p, 0, none⟩ = some (.int .i64 t2) := by rw [← ht2]; exact cell_of hpT rfl
                        obtain ⟨voT, hobT, _⟩ := hin'.ob
                        rw [HKB.out, HKM.out] at hobT
                        have k3T : wr.cell? ⟨bo, 3, none⟩ = some (.map (some (w0.heap.size + 1 + 1))) := cell_of hobT rfl
                        have lbT := lt_of hobT
                        have lpT := lt_of hpT
                        have h6T := (hin'.i64 j _ (MS.wt_get hjT)).1
                        rw [ht2] at h6T
                        obtain ⟨w7, u7, hin7⟩ := (hin'.grow (Below.refl wr.heap.size wr).drew).put t2 0 h6T HBD.out.2.2.2.2
                        rw [HKM.out] at u7
                        have hgp := HGP.out
                        rw [ht2] at hgp
                        have HPU := Lib.hid (put18 hin7 (i := j) hjT)
                        have HG9 := Lib.hid (fun (W : World) (h8 : In w0 w0.heap.size K (r + 1) W (putP { s' with reads := updI s'.reads t2 (some 0) } j)) => go19 k h8 hgp HBD.out.2.2.1 (by rw [putP_out]; show s'.out.length + k ≤ _; rw [HTO.out]; exact HBD.out.2.2.2.1))
                        have HLE := Lib.hid (goP_len _ _ _ _ hgp)
                        rw [HPV.out, HKB.out] at HPU
                        rw [HKB.out] at HG9
                        have HSL' := Lib.hid hsl'
                        clear hin' hsl' hpT ht2 hobT h6T hin7 hgp hjT HR4 lw HAG HT2 HVW HM2 ck2 cp0
                        go_upto_region 30 with fail
                        go_region
                        all_goals
                          go_wp2_with (first | (go_at_call 18; refine HPU.out.mono ?_; rintro e w8 ⟨rfl, hin8⟩; have HIN8 := Lib.hid hin8; clear hin8) | (go_at_call 19; refine (HG9.out _ HIN8.out).mono ?_; rintro e w9 ⟨rfl, r9, hr9, hin9⟩; have HIN9 := Lib.hid (And.intro hr9 hin9); clear hr9 hin9))
                          exact ⟨⟨j + 1, s4, r9, by omega, by go_num, Lib.hid ⟨HIN9.out.2, HRG4.out, by rw [HLE.out.1, putP_len]; exact HSL'.out, by have := HIN9.out.1; have := HBD.out.1; omega, by have h1 := HLE.out.2; rw [putP_out] at h1; have h2 : s4.out.length ≤ s'.out.length + k := h1; have := HTO.out; have := HBD.out.2.1; omega⟩⟩, by simp [intOf]; omega⟩

              · obtain rfl : j = i := by omega
                obtain ⟨hin, hrg, hsl, _, _⟩ := HR.out
                rw [List.drop_eq_nil_of_le (by simp), ringsP] at hrg
                obtain rfl := Option.some.inj hrg
                obtain ⟨vo, hob, _, hout⟩ := hin.ob
                obtain ⟨ao, co, rfl⟩ := own_shape hout
                rw [HKB.out] at hob
                have d6 : wr.cell? ⟨bo, 6, none⟩ = some (.slice ao s.out.length co) := cell_of hob rfl
                have HBEL := Lib.hid hin.bel
                have HO := Lib.hid hout
                clear hin hsl hob hout HR hrg
                go_wp2_with fail
                go_ret
                exact ⟨_, rfl, by rw [← HOUT.out]; exact HO.out, HBEL.out⟩

end Go.Proofs.Ytihnmhemhcmmoaa
