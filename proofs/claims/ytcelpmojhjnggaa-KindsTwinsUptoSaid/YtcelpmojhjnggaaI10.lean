/- What types names must have: Infer. -/
import Derived.Test.YtcelpmojhjnggaaI09
namespace Go.Proofs.Ytcelpmojhjnggaa
open Go Go.RowKit Go.Sort Go.Maps Go.WideMaps KindsP
set_option maxHeartbeats 2000000
set_option maxRecDepth 100000

def pick (f : ByteArray → Option Ty) : List ByteArray → Option (List Ty)
  | [] => some []
  | n :: ns => match f n with
    | none => none
    | some t => if (Ty.kd t == 4 || Ty.kd t == 0) = true then none else (pick f ns).map (t :: ·)
def noTys : ByteArray → Option Ty := fun _ => none
def inferT (ns : List ByteArray) (ps l : List Ty) : Option (List Ty) := pick (infL ns ps l noTys) ns
def Small (M : Nat) (f : ByteArray → Option Ty) : Prop := ∀ n t, f n = some t → sizT t ≤ M
mutual
theorem infT_small (ns : List ByteArray) (M : Nat) : ∀ (p a : Ty) (f : ByteArray → Option Ty), sizT a ≤ M → Small M f → Small M (infT ns p a f)
  | .mk k p n la lr, .mk k' p' n' la' lr', f, ha, hf => by
    rw [sizT] at ha
    rw [infT]
    split
    · split
      · exact hf
      · intro x t hx
        unfold upd at hx
        split at hx
        · obtain rfl := Option.some.inj hx; rw [sizT]; exact ha
        · exact hf x t hx
    · split
      · exact infL_small ns M lr lr' _ (by omega) (infL_small ns M la la' f (by omega) hf)
      · exact hf
theorem infL_small (ns : List ByteArray) (M : Nat) : ∀ (ps l : List Ty) (f : ByteArray → Option Ty), sizL l ≤ M → Small M f → Small M (infL ns ps l f)
  | [], _, f, _, hf => by rw [infL]; exact hf
  | _ :: _, [], f, _, hf => by rw [infL]; exact hf
  | p :: ps, a :: l, f, ha, hf => by
    rw [sizL] at ha
    rw [infL]
    exact infL_small ns M ps l _ (by omega) (infT_small ns M p a f (by omega) hf)
end
theorem pick_at (f : ByteArray → Option Ty) (ns : List ByteArray) (k : Nat) (h : k < ns.length) : pick f (ns.drop k) = match f ns[k] with
    | none => none
    | some t => if (Ty.kd t == 4 || Ty.kd t == 0) = true then none else (pick f (ns.drop (k + 1))).map (t :: ·) := by
  rw [List.drop_eq_getElem_cons h, pick]
theorem no_map (w : World) (dd : Nat) : MapIs (w.alloc (.map #[] 0)) w.heap.size 0 dd noTys :=
  ⟨_, World.ownsMap_made w Try.prog 9 heldE, fun s => ⟨rfl, fun t h => by cases h⟩⟩
/-- what Infer hands back -/
def InferPost (w : World) (dd : Nat) (r : Option (List Ty)) (e : Ending) (w' : World) : Prop :=
  Below w.heap.size w w' ∧ match r with
  | none => e = .returned (.tuple #[.slice none 0 0, .bool false])
  | some ts => ∃ u, e = .returned (.tuple #[u, .bool true]) ∧ RowIn (fun b => w.heap.size ≤ b) (LiesIn (fun b => w.heap.size ≤ b) w' dd) w' u ts

theorem infer_any (w : World) (d dd : Nat) (vn vp va : Value) (ns : List ByteArray) (ps l : List Ty) (hn : NamesIs w vn ns) (hp : RowOf (Lies w d) w vp ps) (ha : RowOf (Lies w dd) w va l) (hsz : sizL ps ≤ 1000000000) (hsl : sizL l ≤ 1000000000) (hnl : ns.length ≤ 1000000) :
    Calls Try.prog 14 #[vn, vp, va] w (InferPost w dd (inferT ns ps l)) := by
  have hsmall := infL_small ns 1000000000 ps l noTys hsl (fun n t h => by cases h)
  have HSM := Lib.hid hsmall
  have HI := Lib.hid (show inferT ns ps l = pick (infL ns ps l noTys) (ns.drop 0) from rfl)
  generalize inferT ns ps l = R at HI ⊢
  have hmm := @run_makeMap Try.prog
  have hb0 : Below w.heap.size w (w.alloc (.map #[] 0)) := (Below.refl _ _).alloc (Nat.le_refl _) _
  have hcall := infers_any d (w.alloc (.map #[] 0)) w.heap.size 0 dd dd noTys vn vp va ns ps l (no_map w dd) (hn.keep (below_keep hb0)) (hp.below hb0) (ha.below hb0) (Nat.le_refl _) (by omega)
  have HN := Lib.hid hn
  obtain ⟨i9, hi9, hz90, hz91, hz92⟩ := info_parts Try.info31'
  clear hsmall hn hp ha
  obtain ⟨⟨an, cn, rfl, hn1, hn2⟩, hn3⟩ := HN.out
  have HN3 := Lib.hid hn3
  clear hn3
  go_enter Try.func14, Try.ntmps14
  go_wp2_with (first | (go_at_call 38; refine hcall.mono ?_; rintro e w2 ⟨⟨u0, rfl⟩, hm2, hg2⟩; refine Hid.out ?_))
  refine Lib.hid ?_
  have hbw : Below w.heap.size w w2 := hb0.grown hg2 (by simp) (fun k hk => by cases hk; exact Nat.le_refl _)
  have HBW := Lib.hid hbw
  have hs2 := hbw.size
  generalize infL ns ps l noTys = f at *
  have HM := Lib.hid hm2
  clear hcall hb0 hm2 hg2 hbw hmm
  go_wp2_with fail
  go_loopw [9, 22] (fun ov iv wr => ∃ (k : Nat) (ts : List Ty) (vs : List Value), k ≤ ns.length ∧ iv = .int .i64 k ∧ ts.length = k ∧ wr.ownsRow w2.heap.size 31 5 ov k (vs.flatMap cells5) ∧ Vals (LiesIn (fun b => w2.heap.size ≤ b ∧ b < wr.heap.size ∧ ov.ownBlock ≠ some b) wr dd) vs ts ∧ Below w2.heap.size w2 wr ∧ Hid (R = (pick f (ns.drop k)).map (ts ++ ·))) (fun _ iv _ => ns.length - (intOf iv).toNat)
  case atStart => exact ⟨0, [], [], by omega, rfl, rfl, World.ownsRow_nil _ _ _ _, ⟨rfl, by simp⟩, Below.refl _ _, by show _ = _; rw [HI.out]; simp⟩
  case round =>
    obtain ⟨k, ts, vs, hk, rfl, hts, hown, hvs, hb, H⟩ := hrel
    obtain ⟨ao, cap, rfl⟩ := own_shape hown
    have HB := Lib.hid hb
    have HO := Lib.hid hown
    have HV := Lib.hid hvs
    have hsz2 := hb.size
    have HW := Lib.hid (HBW.out.trans (hb.mono hs2))
    have HTS := Lib.hid hts
    clear hb hown hvs hts
    by_cases hlt : k < ns.length
    · obtain ⟨bn, on, rfl, hcell⟩ := hn2.resolve_left (by intro e; rw [e] at hlt; simp at hlt)
      have hck := hcell k hlt
      rw [show ns.getD k ByteArray.empty = ns[k] by simp [List.getD, hlt]] at hck
      have hbn := World.block_lt_of_cell? w _ hck
      have cN := (HW.out.cell (p := ⟨bn, on + k, none⟩) hbn).trans hck
      have hnl2 : (ns[k]).size ≤ maxLen := HN3.out _ (List.getElem_mem hlt)
      have HPK := Lib.hid (pick_at f ns k hlt)
      obtain ⟨D, hownm, hrd⟩ := HM.out.below HB.out
      have HOM := Lib.hid hownm
      have hhas := (hrd ns[k]).1
      generalize hnm : ns[k] = s at *
      clear hck hcell hbn
      cases hf : f s with
      | none =>
        rw [hf] at hhas
        have HHAS := Lib.hid (show Maps.has D (kl s) = false from hhas)
        have HAT := Lib.hid (atKey_of_not_has (show Maps.has D (kl s) = false from hhas) (.held (.agg #[.int .i64 0, .string ⟨#[]⟩, .string ⟨#[]⟩, .slice none 0 0, .slice none 0 0])))
        have HR := Lib.hid (show R = none by rw [H.out, HPK.out, hf]; rfl)
        clear hownm hrd hhas hf H
        go_wp2_with (at_lookup; refine wpList_lookup_own_ok _ rfl _ _ 59 rfl 9 31 law9 Try.underlying59 heldE (zero31 _) (.held (.agg #[.int .i64 0, .string ⟨#[]⟩, .string ⟨#[]⟩, .slice none 0 0, .slice none 0 0])) [] rfl w.heap.size _ D rfl HOM.out _ (kl s) rfl (keyOf_string_mk Try.underlying9 hnl2) ?_; intro v ps' hv; obtain rfl : v = (.agg #[.int .i64 0, .string ⟨#[]⟩, .string ⟨#[]⟩, .slice none 0 0, .slice none 0 0]) := (by rw [HAT.out] at hv; simp [heldE] at hv; exact hv.1); rw [HHAS.out]; clear hv)
        refine bodyPost_ret (v := .tuple #[.slice none 0 0, .bool false]) (by simp [results, Try.results14, go_sem]) rfl ?_
        rw [HR.out]
        exact ⟨HW.out.alloc (Nat.le_trans hs2 hsz2) _, rfl⟩
      | some t =>
        rw [hf] at hhas
        have hst := HSM.out _ t hf
        obtain ⟨v0, hat0, hlv0⟩ := (hrd s).2 t hf
        obtain ⟨z0, z1, z2, z3, z4, rfl⟩ := lies_five hlv0
        obtain ⟨e9, kt, pt, nt, a1, m1, q1, a2, m2, q2, lat, lrt, hde, hte, rfl, rfl, rfl, rfl, rfl, hra, hrr⟩ := lies_at hlv0
        have HHAS := Lib.hid (show Maps.has D (kl s) = true from hhas)
        have HAT := Lib.hid (hat0 (.held (.agg #[.int .i64 0, .string ⟨#[]⟩, .string ⟨#[]⟩, .slice none 0 0, .slice none 0 0])))
        have HKD := Lib.hid (show Ty.kd t = kt by rw [hte]; rfl)
        have HF := Lib.hid hf
        have HL := Lib.hid hlv0
        have HST := Lib.hid hst
        clear hownm hrd hhas hf hat0 hlv0 hra hrr hde hte hst
        cases e4 : (kt == 4)
        case true =>
          have HR := Lib.hid (show R = none by rw [H.out, HPK.out, HF.out]; show Option.map _ (if _ then _ else _) = _; rw [if_pos (by rw [HKD.out, e4]; rfl)]; rfl)
          clear H
          go_wp2_with (at_lookup; refine wpList_lookup_own_ok _ rfl _ _ 59 rfl 9 31 law9 Try.underlying59 heldE (zero31 _) (.held (.agg #[.int .i64 0, .string ⟨#[]⟩, .string ⟨#[]⟩, .slice none 0 0, .slice none 0 0])) [] rfl w.heap.size _ D rfl HOM.out _ (kl s) rfl (keyOf_string_mk Try.underlying9 hnl2) ?_; intro v ps' hv; obtain rfl : v = (.agg #[.int .i64 kt, .string pt, .string nt, .slice a1 m1 q1, .slice a2 m2 q2]) := (by rw [HAT.out] at hv; simp [heldE] at hv; exact hv.1); rw [HHAS.out]; clear hv)
          refine bodyPost_ret (v := .tuple #[.slice none 0 0, .bool false]) (by simp [results, Try.results14, go_sem]) rfl ?_
          rw [HR.out]
          exact ⟨HW.out.alloc (Nat.le_trans hs2 hsz2) _, rfl⟩
        cases e0 : (kt == 0)
        case true =>
          have HR := Lib.hid (show R = none by rw [H.out, HPK.out, HF.out]; show Option.map _ (if _ then _ else _) = _; rw [if_pos (by rw [HKD.out, e4, e0]; rfl)]; rfl)
          clear H
          go_wp2_with (at_lookup; refine wpList_lookup_own_ok _ rfl _ _ 59 rfl 9 31 law9 Try.underlying59 heldE (zero31 _) (.held (.agg #[.int .i64 0, .string ⟨#[]⟩, .string ⟨#[]⟩, .slice none 0 0, .slice none 0 0])) [] rfl w.heap.size _ D rfl HOM.out _ (kl s) rfl (keyOf_string_mk Try.underlying9 hnl2) ?_; intro v ps' hv; obtain rfl : v = (.agg #[.int .i64 kt, .string pt, .string nt, .slice a1 m1 q1, .slice a2 m2 q2]) := (by rw [HAT.out] at hv; simp [heldE] at hv; exact hv.1); rw [HHAS.out]; clear hv)
          refine bodyPost_ret (v := .tuple #[.slice none 0 0, .bool false]) (by simp [results, Try.results14, go_sem]) rfl ?_
          rw [HR.out]
          exact ⟨HW.out.alloc (Nat.le_trans hs2 hsz2) _, rfl⟩
        have HR := Lib.hid (show R = (pick f (ns.drop (k + 1))).map ((ts ++ [t]) ++ ·) by
          rw [H.out, HPK.out, HF.out]
          show Option.map _ (if _ then _ else _) = _
          rw [if_neg (by rw [HKD.out, e4, e0]; simp), Option.map_map]
          congr 1
          funext x
          simp)
        clear H
        go_wp2_with (first | (at_lookup; refine wpList_lookup_own_ok _ rfl _ _ 59 rfl 9 31 law9 Try.underlying59 heldE (zero31 _) (.held (.agg #[.int .i64 0, .string ⟨#[]⟩, .string ⟨#[]⟩, .slice none 0 0, .slice none 0 0])) [] rfl w.heap.size _ D rfl HOM.out _ (kl s) rfl (keyOf_string_mk Try.underlying9 hnl2) ?_; intro v ps' hv; obtain rfl : v = (.agg #[.int .i64 kt, .string pt, .string nt, .slice a1 m1 q1, .slice a2 m2 q2]) := (by rw [HAT.out] at hv; simp [heldE] at hv; exact hv.1); rw [HHAS.out]; clear hv) | (go_at_call 39; refine (copied_any dd _ _ t (Lies.below ((Below.refl _ _).alloc (Nat.le_refl _) _) _ _ _ HL.out) HST.out).mono ?_; rintro e w5 ⟨u, rfl, hlu, hb2⟩; obtain ⟨-, hb3⟩ := alloc_known hb2; obtain ⟨c0, c1, c2, c3, c4, rfl⟩ := lies_five (LiesIn.lies _ _ _ hlu); obtain ⟨t0, t1, t2, t3, t4, t5, t6, t7, t8, rfl, rfl, rfl, rfl, rfl⟩ := lies_form (LiesIn.lies _ _ _ hlu); have HU := Lib.hid hlu; have HB2 := Lib.hid hb3; have hsz5 := hb3.size; clear hb2 hb3 hlu) | (at_builtin; refine wpList_append_lies _ rfl (.tmp 44) (.tmp 47) 23 rfl w2.heap.size 31 i9 _ 5 88 Try.underlying23 hi9 hz90 hz91 hz92 rfl (by decide) _ k _ rfl ((own_below HO.out HB2.out).alloc _) ⟨w5.heap.size, 0, none⟩ 1 1 [.int .i64 t0, .string t1, .string t2, .slice t3 t4 t5, .slice t6 t7 t8] rfl rfl (World.news_of_block (cs := #[.int .i64 t0, .string t1, .string t2, .slice t3 t4 t5, .slice t6 t7 t8]) (t := 31) (fr := (0, 0)) (heap_alloc_new w5 _)) (by simp [Value.oneCell']) (by omega) (by unfold maxLen; omega) (by omega) (by simp; omega) (w5.heap.size + 1) (by simp) ?_; intro gg cp w3 hown3 hgrow hat hlt3; have HG : Hid ((w5.alloc (.cells #[.int .i64 t0, .string t1, .string t2, .slice t3 t4 t5, .slice t6 t7 t8] 31)).grownBy w3 (Value.slice ao k cap).ownBlock) := hgrow; have HW3 := Lib.hid hown3; have HATT : Hid ((Value.slice ao k cap).ownBlock = some gg ∨ gg = w5.heap.size + 1) := hat; clear hown3 hgrow hat))
        have hbw : Below w2.heap.size w2 w3 := ((HB.out.trans (HB2.out.mono hsz2)).alloc (by omega) _).grown HG.out (by simp; omega) (fun g hg => (HO.out.lt g hg).1)
        have hgo := fun g hg => HO.out.lt g hg
        have hat := HATT.out
        have hold : ∀ b, (w2.heap.size ≤ b ∧ b < wr.heap.size ∧ (Value.slice ao k cap).ownBlock ≠ some b) → b < wr.heap.size → (w2.heap.size ≤ b ∧ b < w3.heap.size ∧ (Value.slice (some ⟨gg, 0, none⟩) (k + 1) cp).ownBlock ≠ some b) ∧ w3.heap[b]? = wr.heap[b]? := by
          intro b hb hlt
          obtain ⟨h1, h2, h3⟩ := hb
          have e1 : w5.heap[b]? = wr.heap[b]? := HB2.out.block b hlt
          have e2 := heap_alloc_old w5 (.cells #[.int .i64 t0, .string t1, .string t2, .slice t3 t4 t5, .slice t6 t7 t8] 31) (r := b) (by omega)
          have e3 := HG.out.block b (by simp; omega) (Ne.symm h3)
          have hs3 := HG.out.size
          simp at hs3
          refine ⟨⟨h1, by omega, ?_⟩, e3.trans (e2.trans e1)⟩
          rcases hat with h | h
          · intro e; apply h3; rw [h]; exact e
          · intro e; have : gg = b := by simpa [Value.ownBlock] using e
            omega
        have hnew : ∀ b, (wr.alloc (.cells #[.int .i64 kt, .string pt, .string nt, .slice a1 m1 q1, .slice a2 m2 q2] 31)).heap.size ≤ b → b < w5.heap.size → (w2.heap.size ≤ b ∧ b < w3.heap.size ∧ (Value.slice (some ⟨gg, 0, none⟩) (k + 1) cp).ownBlock ≠ some b) ∧ w3.heap[b]? = w5.heap[b]? := by
          intro b hb hlt
          simp at hb
          have hne : ∀ g, (Value.slice ao k cap).ownBlock = some g → g ≠ b := fun g hg => by have := (hgo g hg).2; omega
          have e2 := heap_alloc_old w5 (.cells #[.int .i64 t0, .string t1, .string t2, .slice t3 t4 t5, .slice t6 t7 t8] 31) (r := b) hlt
          have e3 := HG.out.block b (by simp; omega) (fun e => hne b e.symm rfl)
          have hs3 := HG.out.size
          simp at hs3
          refine ⟨⟨by omega, by omega, ?_⟩, e3.trans e2⟩
          intro e
          have : gg = b := by simpa [Value.ownBlock] using e
          rcases hat with h | h
          · exact hne gg h this
          · omega
        refine ⟨⟨k + 1, ts ++ [t], vs ++ [.agg #[.int .i64 t0, .string t1, .string t2, .slice t3 t4 t5, .slice t6 t7 t8]], by omega, by go_num, by have := HTS.out; simp [this], ?_, ?_, hbw, HR⟩, by simp [intOf]; omega⟩
        · rw [List.flatMap_append]
          exact HW3.out
        · exact (HV.out.mono (fun _ _ h => h.kept hold)).snoc (HU.out.kept hnew)
    · have hkl : k = ns.length := by omega
      go_wp2_with fail
      have HR := Lib.hid (show R = some ts by rw [H.out, hkl, List.drop_length]; simp [pick])
      refine bodyPost_ret (v := .tuple #[.slice ao k cap, .bool true]) (by simp [results, Try.results14, go_sem]) rfl ?_
      rw [HR.out]
      refine ⟨HW.out, _, rfl, ?_⟩
      have ho := HO.out
      rw [← HTS.out] at ho
      have := HTS.out
      subst this
      exact RowIn.of_own HO.out (HV.out.mono (fun _ _ h => h.kept (fun b h1 _ => ⟨Nat.le_trans hs2 h1.1, rfl⟩))) (fun _ h => Nat.le_trans hs2 h)
end Go.Proofs.Ytcelpmojhjnggaa
