/- The document's example: awake. -/
import Derived.Test.YtfhmfdmcdmcaiaaC0
namespace Go.Proofs.Ytfhmfdmcdmcaiaa
open Go Go.RowKit Go.Sort
set_option maxHeartbeats 4000000
set_option maxRecDepth 100000

def exN : List ByteArray := [⟨#[97]⟩, ⟨#[98]⟩, ⟨#[99]⟩]
def exD : List (List ByteArray) := [[⟨#[99]⟩], [], []]
theorem exR : orderR exN exD = ([1, 2, 0], 0, 0) := by decide +kernel
theorem exStr {w : World} {b c : Nat} (h : w.heap[b]? = some (.cells #[.string ⟨#[97]⟩, .string ⟨#[98]⟩, .string ⟨#[99]⟩] 9)) (h1 : 3 ≤ c) (h2 : c ≤ maxLen) : StrRow w (.slice (some ⟨b, 0, none⟩) 3 c) exN :=
  ⟨_, c, rfl, h1, h2, .inr ⟨b, 0, rfl, fun i x hx => by
    match i, hx with
    | 0, hx => cases hx; exact cell_of h rfl
    | 1, hx => cases hx; exact cell_of h rfl
    | 2, hx => cases hx; exact cell_of h rfl
    | n + 3, hx => exact absurd hx (by simp [exN])⟩⟩
theorem exNStr {w : World} {b b2 : Nat} (h : w.heap[b]? = some (.cells #[.slice (some ⟨b2, 0, none⟩) 1 1, .slice none 0 0, .slice none 0 0] 22)) (h1 : w.heap[b2]? = some (.cells #[.string ⟨#[99]⟩] 9)) : NStr w (.slice (some ⟨b, 0, none⟩) 3 3) exD :=
  ⟨_, 3, rfl, Nat.le_refl _, by unfold maxLen; omega, .inr ⟨b, 0, rfl, fun i x hx => by
    have hm : 1 ≤ maxLen := by unfold maxLen; omega
    match i, hx with
    | 0, hx =>
      cases hx
      refine ⟨_, cell_of h rfl, some ⟨b2, 0, none⟩, 1, rfl, Nat.le_refl _, hm, .inr ⟨b2, 0, rfl, fun i x hx => ?_⟩⟩
      match i, hx with
      | 0, hx => cases hx; exact cell_of h1 rfl
      | n + 1, hx => exact absurd hx (by simp)
    | 1, hx => cases hx; exact ⟨_, cell_of h rfl, none, 0, rfl, Nat.le_refl _, by omega, .inl rfl⟩
    | 2, hx => cases hx; exact ⟨_, cell_of h rfl, none, 0, rfl, Nat.le_refl _, by omega, .inl rfl⟩
    | n + 3, hx => exact absurd hx (by simp [exD])⟩⟩
theorem ints_iv {w : World} {base : Nat} {v : Value} {l : List Nat} (h : w.ownsRow base 3 1 v l.length (l.map iv)) : IntR w v (l.map Int.ofNat) := by
  refine IntR.own (n := l.length) (base := base) ?_
  rw [List.map_map]
  exact h
theorem exInts {w : World} {b : Nat} (h : w.heap[b]? = some (.cells #[.int .i64 1, .int .i64 2, .int .i64 0] 3)) : IntR w (.slice (some ⟨b, 0, none⟩) 3 3) [1, 2, 0] :=
  ⟨_, 3, rfl, Nat.le_refl _, by unfold maxLen; omega, .inr ⟨b, _, rfl, h, fun i x hx => by
    match i, hx with
    | 0, hx => cases hx; rfl
    | 1, hx => cases hx; rfl
    | 2, hx => cases hx; rfl
    | n + 3, hx => exact absurd hx (by simp)⟩⟩
theorem awake9 (w0 : World) : Calls Try.prog 9 #[] w0 fun e w' => e = .returned (.bool true) ∧ Below w0.heap.size w0 w' := by
  go_enter Try.func9, Try.ntmps9
  go_wp2_with (go_quiet (fail))
  have k1 : (((w0.alloc (.cells #[.string ⟨#[97]⟩, .string ⟨#[98]⟩, .string ⟨#[99]⟩] 9)).alloc (.cells #[.string ⟨#[99]⟩] 9)).alloc (.cells #[.slice (some ⟨w0.heap.size + 1, 0, none⟩) 1 1, .slice none 0 0, .slice none 0 0] 22)).heap[w0.heap.size]? = some (.cells #[.string ⟨#[97]⟩, .string ⟨#[98]⟩, .string ⟨#[99]⟩] 9) :=
    (Below.heap_alloc _ _ _ (by simp; omega)).trans ((Below.heap_alloc _ _ _ (by simp)).trans (heap_alloc_new _ _))
  have k2 : (((w0.alloc (.cells #[.string ⟨#[97]⟩, .string ⟨#[98]⟩, .string ⟨#[99]⟩] 9)).alloc (.cells #[.string ⟨#[99]⟩] 9)).alloc (.cells #[.slice (some ⟨w0.heap.size + 1, 0, none⟩) 1 1, .slice none 0 0, .slice none 0 0] 22)).heap[w0.heap.size + 1]? = some (.cells #[.string ⟨#[99]⟩] 9) :=
    (Below.heap_alloc _ _ _ (by simp)).trans (by have := heap_alloc_new (w0.alloc (.cells #[.string ⟨#[97]⟩, .string ⟨#[98]⟩, .string ⟨#[99]⟩] 9)) (.cells #[.string ⟨#[99]⟩] 9); simpa using this)
  have k3 : (((w0.alloc (.cells #[.string ⟨#[97]⟩, .string ⟨#[98]⟩, .string ⟨#[99]⟩] 9)).alloc (.cells #[.string ⟨#[99]⟩] 9)).alloc (.cells #[.slice (some ⟨w0.heap.size + 1, 0, none⟩) 1 1, .slice none 0 0, .slice none 0 0] 22)).heap[w0.heap.size + 1 + 1]? = some (.cells #[.slice (some ⟨w0.heap.size + 1, 0, none⟩) 1 1, .slice none 0 0, .slice none 0 0] 22) := by
    have := heap_alloc_new ((w0.alloc (.cells #[.string ⟨#[97]⟩, .string ⟨#[98]⟩, .string ⟨#[99]⟩] 9)).alloc (.cells #[.string ⟨#[99]⟩] 9)) (.cells #[.slice (some ⟨w0.heap.size + 1, 0, none⟩) 1 1, .slice none 0 0, .slice none 0 0] 22)
    simpa using this
  have hb : Below w0.heap.size w0 (((w0.alloc (.cells #[.string ⟨#[97]⟩, .string ⟨#[98]⟩, .string ⟨#[99]⟩] 9)).alloc (.cells #[.string ⟨#[99]⟩] 9)).alloc (.cells #[.slice (some ⟨w0.heap.size + 1, 0, none⟩) 1 1, .slice none 0 0, .slice none 0 0] 22)) :=
    (((Below.refl _ _).alloc (Nat.le_refl _) _).alloc (by simp) _).alloc (by simp; omega) _
  generalize (((w0.alloc (.cells #[.string ⟨#[97]⟩, .string ⟨#[98]⟩, .string ⟨#[99]⟩] 9)).alloc (.cells #[.string ⟨#[99]⟩] 9)).alloc (.cells #[.slice (some ⟨w0.heap.size + 1, 0, none⟩) 1 1, .slice none 0 0, .slice none 0 0] 22)) = w3 at k1 k2 k3 hb ⊢
  have HB := Lib.hid hb
  have hord := order10 w3 _ _ exN exD (exStr k1 (Nat.le_refl _) (by unfold maxLen; omega)) (exNStr k3 k2) (by simp [exD]) (by simp [exN])
  unfold OrderPost at hord
  rw [exR] at hord
  clear hb k1 k2 k3
  refine hord.mono ?_
  rintro e w4 ⟨hb4, vo, rfl, ho⟩
  have HI := Lib.hid (ints_iv ho)
  have HB4 := Lib.hid hb4
  obtain ⟨ao, co, rfl, _⟩ := HI.out.shape
  have HSM := Lib.hid (fun (w : World) (b : Nat) (hw : Below w4.heap.size w4 w) (h : w.heap[b]? = some (.cells #[.int .i64 1, .int .i64 2, .int .i64 0] 3)) => same12 w _ _ _ _ (HI.out.kept (fun b _ hl _ => hw.block b hl)) (exInts h))
  clear ho hb4 hord
  go_wp2_with (first | (go_at_call 13; refine (num13 _ _).mono ?_; rintro e w6 ⟨rfl, hw6⟩; obtain rfl := hw6.symm) | (go_at_call 12; refine (HSM.out _ _ ((Below.refl _ _).alloc (Nat.le_refl _) _) (heap_alloc_new _ _)).mono ?_; rintro e w7 ⟨rfl, hb7⟩; have HB7 := Lib.hid hb7; clear hb7))
  go_ret
  refine ⟨rfl, HB.out.trans ((HB4.out.mono HB.out.size).trans (((Below.refl w0.heap.size _).alloc (by have := HB.out.size; have := HB4.out.size; omega) _).trans (HB7.out.mono (by have := HB.out.size; have := HB4.out.size; simp; omega))))⟩
end Go.Proofs.Ytfhmfdmcdmcaiaa
