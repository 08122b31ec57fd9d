/- Copies, in plain words; and where the orderer lies in memory. -/
import Derived.Test.YtihnmhemhcmmoaaProg
import Derived.Below
import Derived.WalkKit
import Derived.WalkSpells
import Derived.WalkSmall
import Derived.WalkLawsBesides
import Derived.OwnWalk
import Derived.Deep.Slices
import Derived.Laws.StructEq
import Derived.Deep.AppendLies
import Derived.Deep.Cut
import Derived.Deep.DeepCutAuto
import Derived.BigQuiet
import Derived.Lib.QuietBelow
import Derived.Tactics
import Derived.LoopTactic
import Derived.Maps.OwnSet
import Derived.Maps.AppendAt
import Derived.Maps.OwnOps
import Derived.Deep.LoopGhost
import Derived.Lib.Hide
namespace Go.Proofs.Ytihnmhemhcmmoaa
open Go Go.RowKit Go.Maps Go.WideMaps
set_option maxHeartbeats 2000000
set_option maxRecDepth 100000

/-! ### Plain -/
structure Mv where
  tc : Int
  frm : Int
deriving DecidableEq
structure Wt where
  tc : Int
  frm : Int
  done : Bool
  next : Option Nat
structure MS where
  ws : List Wt
  first : Option Nat
  last : Option Nat
  reads : Int → Option Int
  out : List Mv
def wrap1 (a : Int) : Int := IntKind.i64.wrap a
def updI {α : Type} (f : Int → α) (c : Int) (x : α) : Int → α := fun y => if y = c then x else f y
def MS.wt (s : MS) (i : Nat) : Wt := s.ws.getD i ⟨0, 0, false, none⟩
def MS.setW (s : MS) (i : Nat) (x : Wt) : MS := { s with ws := s.ws.set i x }
def MS.rd (s : MS) (c : Int) : Int := (s.reads c).getD 0
/-- a copy is laid behind the others -/
def putP (s : MS) (i : Nat) : MS :=
  let s1 := s.setW i { s.wt i with next := none }
  match s.first with
  | none => { s1 with first := some i, last := some i }
  | some _ =>
    match s.last with
    | none => s1
    | some l => { s1.setW l { s1.wt l with next := some i } with last := some i }
def lessP (toF : Int → Option Nat) (s : MS) (c : Int) : MS :=
  let r := wrap1 (s.rd c - 1)
  let s1 : MS := { s with reads := updI s.reads c (some r) }
  match toF c with
  | none => s1
  | some i => if (!(s1.wt i).done && (r == 0)) = true then putP s1 i else s1
def doesP (toF : Int → Option Nat) (s : MS) (i : Nat) : MS :=
  let x := s.wt i
  let s1 := s.setW i { x with done := true }
  lessP toF { s1 with out := s1.out ++ [⟨x.tc, x.frm⟩] } x.frm
/-- what waits is done, one behind the other, so many at most -/
def goP (toF : Int → Option Nat) : Nat → MS → Option MS
  | 0, _ => none
  | k + 1, s =>
    match s.first with
    | none => some s
    | some i => goP toF k (doesP toF { s with first := (s.wt i).next } i)
def turnP (spare : Int) : List Nat → MS → MS
  | [], s => s
  | x :: l, s => turnP spare l (if (s.wt x).done = true then s else s.setW x { s.wt x with frm := spare })
def ringP (toF : Int → Option Nat) (wants : Int → List Nat) (spare : Int) (k : Nat) (s : MS) (i : Nat) : Option MS :=
  if (s.wt i).done = true then some s
  else
    let t := (s.wt i).tc
    let s1 : MS := { s with out := s.out ++ [⟨spare, t⟩] }
    let s2 := turnP spare (wants t) s1
    goP toF k (putP { s2 with reads := updI s2.reads (s2.wt i).tc (some 0) } i)
def ringsP (toF : Int → Option Nat) (wants : Int → List Nat) (spare : Int) (k : Nat) : List Nat → MS → Option MS
  | [], s => some s
  | i :: l, s => match ringP toF wants spare k s i with
    | none => none
    | some s' => ringsP toF wants spare k l s'
def freeP : List Nat → MS → MS
  | [], s => s
  | i :: l, s => freeP l (if (s.rd (s.wt i).tc == 0) = true then putP s i else s)
structure BS where
  ws : List Wt
  toF : Int → Option Nat
  wants : Int → List Nat
  reads : Int → Option Int
def buildP : List Mv → BS → BS
  | [], b => b
  | m :: l, b => buildP l (if m.tc = m.frm then b else { ws := b.ws ++ [⟨m.tc, m.frm, false, none⟩], toF := updI b.toF m.tc (some b.ws.length), wants := updI b.wants m.frm (b.wants m.frm ++ [b.ws.length]), reads := updI b.reads m.frm (some (wrap1 ((b.reads m.frm).getD 0 + 1))) })
def bs0 : BS := ⟨[], fun _ => none, fun _ => [], fun _ => none⟩
def sortedP (ms : List Mv) (spare : Int) (k : Nat) : Option (List Mv) :=
  let b := buildP ms bs0
  let s0 : MS := ⟨b.ws, none, none, b.reads, []⟩
  match goP b.toF k (freeP (List.range b.ws.length) s0) with
  | none => none
  | some s1 => (ringsP b.toF b.wants spare k (List.range b.ws.length) s1).map MS.out

/-! ### Maps whose keys are numbers -/
def heldE (v : Value) : Option (DataW Value × List MemPlace) := some (.held v, [])
def ki (c : Int) : Lit := .int .i64 c
def I64 (c : Int) : Prop := (Lit.int .i64 c).wf = true
theorem law3 : Keyed Try.prog 3 := int_keyed Try.underlying3
theorem ki_inj {a b : Int} (h : ki a = ki b) : a = b := by unfold ki at h; simpa using h
/-- the map in block b holds just what f says -/
def IM (w : World) (b n : Nat) (f : Int → Option Value) : Prop :=
  ∃ D, w.ownsMap Try.prog 3 heldE b n D ∧ ∀ c : Int, Maps.has D (ki c) = (f c).isSome ∧ ∀ v, f c = some v → ∀ z, D.atKey (ki c) z = .held v
theorem IM.mono {w : World} {b n n' : Nat} {f : Int → Option Value} (h : IM w b n f) (hn : n ≤ n') : IM w b n' f := by
  obtain ⟨D, h1, h2⟩ := h
  exact ⟨D, h1.mono hn, h2⟩
theorem IM.kept {w w' : World} {b n : Nat} {f : Int → Option Value} {row : Option Nat} (h : IM w b n f) (hg : w.grownBy w' row) (hne : some b ≠ row) : IM w' b n f := by
  obtain ⟨D, h1, h2⟩ := h
  exact ⟨D, h1.kept hg hne, h2⟩
theorem IM.block {w : World} {b n : Nat} {f : Int → Option Value} (h : IM w b n f) : ∃ es ck, w.heap[b]? = some (Obj.map es ck) := by
  obtain ⟨D, ⟨es, ck, hb, _⟩, _⟩ := h
  exact ⟨es, ck, hb⟩
theorem IM.look {w : World} {b n : Nat} {f : Int → Option Value} (h : IM w b n f) {t e : TypeId} (ht : Try.prog.underlying t = some (.map 3 e)) {z : Value} (hz : (zeroValue e).run Try.prog w = .ok z w) (c : Int) (hc : I64 c) : (Instr.lookup t (.map (some b)) (.int .i64 c) false).run Try.prog w = .ok ((f c).getD z) w := by
  obtain ⟨D, h1, h2⟩ := h
  obtain ⟨v, ps, hr, hv⟩ := h1.lookup law3 ht hz (zd := .held z) (zp := []) rfl (key := .int .i64 c) (kl := ki c) (keyOf_int_mk Try.underlying3 hc)
  rw [hr]
  cases hf : f c with
  | none =>
    have hh := (h2 c).1
    rw [hf] at hh
    rw [atKey_of_not_has hh] at hv
    simp [heldE] at hv
    rw [hv.1]; rfl
  | some u =>
    rw [(h2 c).2 u hf] at hv
    simp [heldE] at hv
    rw [hv.1]; rfl
theorem IM.put {w : World} {b n : Nat} {f : Int → Option Value} (h : IM w b n f) {t e : TypeId} (ht : Try.prog.underlying t = some (.map 3 e)) (hn : n < maxLen) (c : Int) (hc : I64 c) (v : Value) : ∃ w', (Instr.mapUpdate t (.map (some b)) (.int .i64 c) v).run Try.prog w = .ok () w' ∧ IM w' b (n + 1) (updI f c (some v)) ∧ w.grownBy w' (some b) := by
  obtain ⟨D, h1, h2⟩ := h
  have hkey : keyOf Try.prog 3 (.int .i64 c) = some (ki c) := keyOf_int_mk Try.underlying3 hc
  obtain ⟨w', hr, ho, hg⟩ := h1.update law3 ht hn hkey (val := v) (d := .held v) (ps := []) rfl
  have hD : IsMap D := (World.ownsMap.tidy h1 law3).isMap
  have hk : WideAt.IsKeyLit (ki c) := law3.key hkey
  refine ⟨w', hr, ⟨_, ho, fun x => ?_⟩, hg⟩
  by_cases hx : x = c
  · subst hx
    refine ⟨by rw [has_put_same hD hk]; simp [updI], fun u hu z => ?_⟩
    have : u = v := by simpa [updI] using hu.symm
    subst this
    exact atKey_put_same hD hk _ z
  · have hne : ki x ≠ ki c := fun e => hx (ki_inj e)
    refine ⟨by rw [has_put_other hne, (h2 x).1]; simp [updI, hx], fun u hu z => ?_⟩
    rw [atKey_put_other hne]
    exact (h2 x).2 u (by simpa [updI, hx] using hu) z
theorem IM.made (w : World) : IM (w.alloc (.map #[] 0)) w.heap.size 0 (fun _ => none) :=
  ⟨_, World.ownsMap_made w _ _ _, fun c => ⟨by simp [Maps.has], fun v h => by cases h⟩⟩
end Go.Proofs.Ytihnmhemhcmmoaa
