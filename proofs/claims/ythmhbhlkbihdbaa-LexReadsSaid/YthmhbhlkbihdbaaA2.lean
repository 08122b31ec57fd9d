/- Walks of the reader: put, blanks. -/
import Derived.Test.YthmhbhlkbihdbaaA1
import Derived.Deep.RegionLaw
import Derived.Deep.AppendLies
import Derived.OwnWalk
namespace Go.Proofs.Ythmhbhlkbihdbaa
open Go.RowKit LexP

def tokC (t : Tok) : List Value := [.int .i64 t.kind, .string ⟨t.text.toArray⟩, .int .i64 t.n, .int .i64 t.pos]
def toksC (l : List Tok) : List Value := l.flatMap tokC
theorem toksC_snoc (l : List Tok) (t : Tok) : toksC (l ++ [t]) = toksC l ++ tokC t := by simp [toksC]

/-- the reader at block R -/
def Rd (w : World) (R : Nat) (s : ByteArray) (p : Nat) (tv : Value) : Prop := w.heap[R]? = some (.cells #[.string s, .int .i64 p, tv] 41 (0, 0))

section
variable {w : World} {R : Nat} {s : ByteArray} {p : Nat} {tv : Value}
theorem Rd.c0 (h : Rd w R s p tv) : w.cell? ⟨R, 0, none⟩ = some (.string s) := by unfold Rd at h; simp [World.cell?, h]
theorem Rd.c1 (h : Rd w R s p tv) : w.cell? ⟨R, 1, none⟩ = some (.int .i64 p) := by unfold Rd at h; simp [World.cell?, h]
theorem Rd.c2 (h : Rd w R s p tv) : w.cell? ⟨R, 2, none⟩ = some tv := by unfold Rd at h; simp [World.cell?, h]
theorem Rd.fr (h : Rd w R s p tv) (o : Nat) : w.frozen? ⟨R, o, none⟩ = false := by unfold Rd at h; simp [World.frozen?, h]
theorem Rd.lt (h : Rd w R s p tv) : R < w.heap.size := by
  unfold Rd at h
  exact (Array.getElem?_eq_some_iff.1 h).1
theorem Rd.keep {w' : World} (h : Rd w R s p tv) (hb : w'.heap[R]? = w.heap[R]?) : Rd w' R s p tv := by unfold Rd at *; rw [hb, h]
theorem Rd.drew (h : Rd w R s p tv) (n : Nat) : Rd (w.drewN n) R s p tv := h
theorem Rd.set1 (h : Rd w R s p tv) (q : Nat) : Rd (w.setCell ⟨R, 1, none⟩ (.int .i64 q)) R s q tv := by
  unfold Rd at *
  simp [World.setCell, Array.getElem?_modify, h]
theorem Rd.set2 (h : Rd w R s p tv) (tv' : Value) : Rd (w.setCell ⟨R, 2, none⟩ tv') R s p tv' := by
  unfold Rd at *
  simp [World.setCell, Array.getElem?_modify, h]
end

/-- the reader's place -/
def posOf (w : World) (R : Nat) : Nat := match w.cell? ⟨R, 1, none⟩ with | some (.int _ n) => n.toNat | _ => 0
theorem Rd.pos {w : World} {R : Nat} {s : ByteArray} {p : Nat} {tv : Value} (h : Rd w R s p tv) : posOf w R = p := by
  unfold posOf; rw [h.c1]; simp

theorem Try.info31 : (Try.prog.info? 31).map (fun i => (i.zero, i.size, i.bytes)) = some (some (.agg #[.int .i64 0, .string ⟨#[]⟩, .int .i64 0, .int .i64 0]), 4, 40) := by kernel_rfl

/-- the reader goes on: place q, the cells xs -/
def Rds (B : Nat) (w : World) (R : Nat) (s : ByteArray) (q : Nat) (n : Nat) (xs : List Value) (w' : World) : Prop :=
  ∃ tv, Rd w' R s q tv ∧ w'.ownsRow (R + 1) 31 4 tv n xs ∧ Below B w w'

theorem Rd.grown {w0 w1 : World} {R : Nat} {s : ByteArray} {p : Nat} {tv : Value} {n : Nat} {xs : List Value} (hr : Rd w0 R s p tv) (hown : w0.ownsRow (R + 1) 31 4 tv n xs) (hg : w0.grownBy w1 tv.ownBlock) : Rd w1 R s p tv :=
  hr.keep (hg.block R hr.lt (fun e => by have := (hown.lt R e.symm).1; omega))

theorem own_lt {w0 : World} {R : Nat} {tv : Value} {n : Nat} {xs : List Value} (hown : w0.ownsRow (R + 1) 31 4 tv n xs) : ∀ k, tv.ownBlock = some k → R ≤ k := fun k e => by have := (hown.lt k e).1; omega

set_option maxRecDepth 100000 in
set_option maxHeartbeats 1000000 in
theorem put_any (R : Nat) (s : ByteArray) (p : Nat) (tv : Value) (n : Nat) (xs : List Value) (k : Int) (ln : Nat) (text : ByteArray) (v : Int) (w : World) (hp : p + ln ≤ maxLen) (hn : n ≤ 100000)
    (hr : Rd w R s p tv) (hown : w.ownsRow (R + 1) 31 4 tv n xs) :
    Calls Try.prog 22 #[.pointer (some ⟨R, 0, none⟩), .int .i64 k, .int .i64 ln, .string text, .int .i64 v] w fun e w' => e = .returned (.tuple #[]) ∧
      Rds R w R s (p + ln) (n + 1) (xs ++ [.int .i64 k, .string text, .int .i64 v, .int .i64 p]) w' := by
  unfold maxLen at hp
  obtain ⟨i0, hi0, hz0, hz1, hz2⟩ := info_parts Try.info31
  have h1 := hr.c1
  have h2 := hr.c2
  have hf1 := hr.fr 1
  have hf2 := hr.fr 2
  have hlt := hr.lt
  have HR := Lib.hid hr
  have HO := Lib.hid hown
  clear hr hown
  go_enter Try.func22, Try.ntmps22
  go_wp2_with fail
  go_region_law (refine step_append_lies _ (by rfl) _ _ _ (by rfl) (R + 1) 31 i0 _ 4 40 Try.underlying22 hi0 hz0 hz1 hz2 rfl (by omega) tv n xs (by rfl) ((HO.out.alloc _).drew) ⟨w.heap.size, 0, none⟩ 1 1 [.int .i64 k, .string text, .int .i64 v, .int .i64 p] (by rfl) (by rfl) (World.news_of_block (cs := #[.int .i64 k, .string text, .int .i64 v, .int .i64 p]) (t := 31) (fr := (0, 0)) (heap_alloc_new w _)) (by simp [Value.oneCell']) (by omega) (by unfold maxLen; omega) (by omega) (by simp; omega) (w.heap.size + 1) (by simp) ?_; intro gg cap w1 hown1 hgrow hat hlt1; have HR1 := Lib.hid (Rd.grown ((HR.out.keep (Below.heap_alloc _ _ _ hlt)).drew 1) ((HO.out.alloc _).drew) hgrow); have c1 := HR1.out.c1; have c2 := HR1.out.c2; have f1 := HR1.out.fr 1; have f2 := HR1.out.fr 2; have HB1 := Lib.hid ((((Below.refl R w).alloc (by omega) _).drew).grown hgrow (by simp; omega) (own_lt HO.out)); have HW := Lib.hid hown1; clear hown1 hgrow hat)
  all_goals go_wp2
  all_goals go_end0
  all_goals
    refine ⟨rfl, .slice (some ⟨gg, 0, none⟩) (n + 1) cap, ?_, ?_, ?_⟩
    · exact ((HR1.out.set2 (.slice (some ⟨gg, 0, none⟩) (n + 1) cap)).set1 (p + ln))
    · exact ownsRow_setCell_below (ownsRow_setCell_below HW.out (by simp) _) (by simp) _
    · exact (HB1.out.setCell (by simp) _).setCell (by simp) _

theorem Rds.drew {B : Nat} {w w' : World} {R : Nat} {s : ByteArray} {q n : Nat} {xs : List Value} (h : Rds B w R s q n xs w') (k : Nat) : Rds B w R s q n xs (w'.drewN k) := by
  obtain ⟨tv, h1, h2, h3⟩ := h
  exact ⟨tv, h1, h2, ⟨h3.os, h3.tape, h3.output, h3.size, h3.block⟩⟩
theorem Rds.set1 {B : Nat} {w w' : World} {R : Nat} {s : ByteArray} {q n : Nat} {xs : List Value} (h : Rds B w R s q n xs w') (hB : B ≤ R) (q' : Nat) : Rds B w R s q' n xs (w'.setCell ⟨R, 1, none⟩ (.int .i64 q')) := by
  obtain ⟨tv, h1, h2, h3⟩ := h
  exact ⟨tv, h1.set1 q', ownsRow_setCell_below h2 (by simp) _, h3.setCell hB _⟩

end Go.Proofs.Ythmhbhlkbihdbaa
