/- What KindsBack says, in plain words. -/
import Derived.Test.YtcelpmojhjnggaaL4
import Derived.Test.YtcelpmojhjnggaaL1
namespace Go.Proofs.Ytcelpmojhjnggaa
open Go Go.RowKit Go.Sort KindsP
set_option maxRecDepth 100000

theorem cntL_ge : ∀ (l : List Ty) (m n : Int), 0 ≤ m → n ≤ cntL l m n
  | [], m, n, _ => by rw [cntL]; omega
  | x :: xs, m, n, h => by
    rw [cntL]
    split
    · next hn =>
      obtain ⟨g1, _⟩ := cnt_le x (m - n) (by omega)
      have := cntL_ge xs m (n + cnt x (m - n)) h
      omega
    · omega
mutual
theorem cnt_siz : ∀ (t : Ty) (m : Int), 0 ≤ m → cnt t m ≤ m → (sizT t : Int) = cnt t m
  | .mk k p n la lr, m, h0, h => by
    rw [cnt] at h ⊢
    rw [sizT]
    have g := cntL_ge lr m (cntL la m 1) h0
    have h1 := cntL_siz la m 1 h0 (by omega)
    have h2 := cntL_siz lr m (cntL la m 1) h0 h
    omega
theorem cntL_siz : ∀ (l : List Ty) (m n : Int), 0 ≤ m → cntL l m n ≤ m → n + (sizL l : Int) = cntL l m n
  | [], m, n, _, _ => by rw [cntL, sizL]; omega
  | x :: xs, m, n, h0, h => by
    rw [cntL] at h ⊢
    rw [sizL]
    split at h
    · next hn =>
      rw [if_pos hn]
      have g := cntL_ge xs m (n + cnt x (m - n)) h0
      have h1 := cnt_siz x (m - n) (by omega) (by omega)
      have h2 := cntL_siz xs m (n + cnt x (m - n)) h0 h
      omega
    · next hn => omega
end
theorem great_siz (l : List Ty) (h : greatB l = false) : sizL l ≤ 400 := by
  unfold greatB at h
  have := cntL_siz l 400 0 (by omega) (by simpa using h)
  have h' : cntL l 400 0 ≤ 400 := by simpa using h
  omega

abbrev E1 : ByteArray := ⟨#[]⟩
def slT (t : Ty) : Ty := .mk 6 E1 E1 [t] []
def itT : Nat → Ty → Ty
  | 0, t => t
  | j + 1, t => slT (itT j t)
def varT (n : ByteArray) : Ty := .mk 9 E1 n [] []
theorem siz_it (j : Nat) (t : Ty) : sizT (itT j t) = sizT t + j := by
  induction j with
  | zero => rfl
  | succ j ih => rw [itT, slT, sizT, sizL, sizL, sizL, ih]; omega
theorem has_name (n : ByteArray) : Lib.containsS [n] n = true := (Lib.containsS_iff _ _).2 (by simp)
theorem inf_it (n : ByteArray) (t : Ty) (f : ByteArray → Option Ty) (hf : f n = none) : ∀ j, infT [n] (itT j (varT n)) (itT j t) f = upd f n t
  | 0 => by
    show infT [n] (varT n) t f = _
    rw [varT, infT, if_pos (by rw [has_name]; rfl), hf]
    rfl
  | j + 1 => by
    show infT [n] (slT (itT j (varT n))) (slT (itT j t)) f = _
    rw [slT, infT, if_neg (by simp), if_pos (by rfl)]
    show infL [n] [] [] (infL [n] [itT j (varT n)] [itT j t] f) = _
    rw [infL, infL, infL, inf_it n t f hf j]
theorem infer_it (n : ByteArray) (t : Ty) (j : Nat) : inferT [n] [itT j (varT n)] [itT j t] = if (Ty.kd t == 4 || Ty.kd t == 0) = true then none else some [t] := by
  rw [inferT, infL, infL, inf_it n t noTys rfl j, pick]
  have : upd noTys n t n = some t := by simp [upd]
  rw [this]
  show (if _ then _ else _) = _
  split
  · rfl
  · rw [pick]; rfl
theorem idx_one (n : ByteArray) : Lib.idxOfS [n] n = 0 := by
  have h := has_name n
  rw [Lib.containsS, decide_eq_true_eq] at h
  unfold Lib.idxOfS
  rw [Lib.idxFromS_hit n [n] 0 0 (by simp) rfl (by intro j hj; omega)]
  rfl
theorem put_it (n : ByteArray) (t : Ty) : ∀ j, putT [n] [t] (itT j (varT n)) = itT j t
  | 0 => by
    show putT [n] [t] (varT n) = t
    have : found [n] [t] n = some t := by rw [found, idx_one]; rfl
    rw [varT, putT, if_pos (by rfl), this]
  | j + 1 => by
    show putT [n] [t] (slT (itT j (varT n))) = slT (itT j t)
    rw [slT, putT, if_neg (by simp)]
    show Ty.mk _ _ _ _ _ = _
    rw [putL, putL, putL, put_it n t j, slT]
end Go.Proofs.Ytcelpmojhjnggaa
