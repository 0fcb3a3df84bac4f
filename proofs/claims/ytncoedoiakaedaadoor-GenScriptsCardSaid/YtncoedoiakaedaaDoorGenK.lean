/- The script of turns, in plain Lean. No program in sight. No condition. -/
import Derived.Test.YtncoedoiakaedaaDoorArQ
import Derived.Test.YtncoedoiakaedaaDoorQuote
import Derived.Test.YtncoedoiakaedaaDoorAll1
import Derived.Test.YtncoedoiakaedaaDoorPieces
import Derived.Lib.ItoaNum
set_option linter.unusedVariables false
set_option linter.unusedSimpArgs false
namespace Go.Proofs.YtncoedoiakaedaaDoor
open Tcl Tail Turn Ar Bl
namespace Gn
def exp1 : List UInt8 := [101, 120, 112, 101, 99, 116, 32, 123, 45, 101, 120, 97, 99, 116, 32]
def exp2 : List UInt8 := [32, 123, 125, 32, 101, 111, 102, 32, 123, 101, 120, 105, 116, 32, 49, 125, 125, 10]
def snd1 : List UInt8 := [115, 101, 110, 100, 32]
def eofl : List UInt8 := [101, 120, 112, 101, 99, 116, 32, 101, 111, 102, 10]
def hd1 : List UInt8 := [109, 97, 116, 99, 104, 95, 109, 97, 120, 32]
def hd2 : List UInt8 := [10, 115, 101, 116, 32, 116, 105, 109, 101, 111, 117, 116, 32, 45, 49, 10, 115, 112, 97, 119, 110, 32, 112, 101, 101, 114, 10]
def ex0 : List UInt8 := [101, 120, 105, 116, 32, 48, 10]
def pieceT (p : List UInt8) : List UInt8 := exp1 ++ quoteQ p ++ exp2
def sendT (i : List UInt8) : List UInt8 := if i = [] then [] else snd1 ++ quoteQ i ++ [10]
def turnT (m : Nat) (t : Tn) : List UInt8 := ((pieces t.1 m).map pieceT).flatten ++ sendT t.2
def bodyT (m : Nat) (ts : List Tn) : List UInt8 := (ts.map (turnT m)).flatten
def longP (a : Nat) (ps : List (List UInt8)) : Nat := ps.foldl (fun a p => max a p.length) a
def longT (m : Nat) (ts : List Tn) : Nat := ts.foldl (fun a t => longP a (pieces t.1 m)) 1
def scriptT (m : Nat) (ts : List Tn) (e : Bool) : List UInt8 := hd1 ++ Lib.itoa (longT m ts) ++ hd2 ++ (bodyT m ts ++ (if e then eofl else [])) ++ ex0
theorem bodyT_snoc (m : Nat) (ts : List Tn) (t : Tn) : bodyT m (ts ++ [t]) = bodyT m ts ++ turnT m t := by unfold bodyT; simp
theorem longT_snoc (m : Nat) (ts : List Tn) (t : Tn) : longT m (ts ++ [t]) = longP (longT m ts) (pieces t.1 m) := by unfold longT; rw [List.foldl_append]; rfl
theorem longP_snoc (a : Nat) (ps : List (List UInt8)) (p : List UInt8) : longP a (ps ++ [p]) = max (longP a ps) p.length := by unfold longP; rw [List.foldl_append]; rfl
theorem longP_le {a c : Nat} (ha : a ≤ c) : ∀ {ps : List (List UInt8)}, (∀ p ∈ ps, p.length ≤ c) → longP a ps ≤ c
  | [], _ => ha
  | p :: ps, h => by
    unfold longP
    rw [List.foldl_cons]
    exact longP_le (Nat.max_le.2 ⟨ha, h p (by simp)⟩) (fun q hq => h q (by simp [hq]))
theorem shortest_le (t : List UInt8) : shortest t ≤ t.length := by
  unfold shortest
  split
  · exact Nat.zero_le _
  · rename_i h
    have := longest_lt (b := t.reverse) (by simpa using h)
    rw [List.length_reverse] at this
    omega
/-- A piece is no longer than its text, and there are no more than it has bytes. -/
theorem pieces_le {t : List UInt8} {m : Nat} (hm : 1 ≤ m) : (pieces t m).length ≤ t.length ∧ ∀ p ∈ pieces t m, p.length ≤ t.length ∧ p.length ≤ m := by
  have hs := shortest_le t
  unfold pieces
  split
  · simp
  · split
    · refine ⟨by simp; omega, fun p hp => ?_⟩
      simp at hp
      subst hp
      rw [List.length_drop]
      omega
    · unfold cuts
      refine ⟨?_, fun p hp => ?_⟩
      · rw [List.length_map, List.length_range]
        have h2 : t.length + m - 1 ≤ t.length * m + (m - 1) := by
          have := Nat.le_mul_of_pos_right t.length hm
          omega
        exact Nat.le_of_lt_succ (Nat.div_lt_of_lt_mul (by rw [Nat.mul_comm, Nat.succ_mul]; omega))
      · simp only [List.mem_map] at hp
        obtain ⟨i, -, rfl⟩ := hp
        simp only [List.length_take, List.length_drop]
        omega
theorem flatten_le {l : List (List UInt8)} {c : Nat} (h : ∀ x ∈ l, x.length ≤ c) : l.flatten.length ≤ l.length * c := by
  induction l with
  | nil => simp
  | cons a l ih =>
    rw [List.flatten_cons, List.length_append, List.length_cons, Nat.succ_mul]
    have h1 := h a (by simp)
    have h2 := ih (fun x hx => h x (by simp [hx]))
    omega
theorem pieceT_len (p : List UInt8) : (pieceT p).length ≤ 4 * p.length + 35 := by
  have := quoteQ_len p
  unfold pieceT
  rw [List.length_append, List.length_append, show exp1.length = 15 from rfl, show exp2.length = 18 from rfl]
  omega
theorem turnT_len {m : Nat} (hm : 1 ≤ m) {t : Tn} (h1 : t.1.length ≤ 262144) : (turnT m t).length ≤ t.1.length * 1048611 + (4 * t.2.length + 8) := by
  obtain ⟨h2, h3⟩ := pieces_le (t := t.1) hm
  unfold turnT
  rw [List.length_append]
  have h4 := flatten_le (l := (pieces t.1 m).map pieceT) (c := 1048611) (fun x hx => by
    simp only [List.mem_map] at hx
    obtain ⟨p, hp, rfl⟩ := hx
    have := pieceT_len p
    have := (h3 p hp).1
    omega)
  rw [List.length_map] at h4
  have h5 : (sendT t.2).length ≤ 4 * t.2.length + 8 := by
    have := quoteQ_len t.2
    unfold sendT
    split
    · simp
    · have e : (snd1 ++ quoteQ t.2 ++ [10]).length = 5 + (quoteQ t.2).length + 1 := by rw [List.length_append, List.length_append]; rfl
      omega
  have h6 := Nat.mul_le_mul_right 1048611 h2
  omega
def totT (ts : List Tn) : Nat := (ts.map (fun t => t.1.length + t.2.length)).sum
theorem longF (m : Nat) (hm : 1 ≤ m) {c : Nat} : ∀ (ts : List Tn) (a : Nat), a ≤ c → (∀ t ∈ ts, t.1.length ≤ c) → ts.foldl (fun a t => longP a (pieces t.1 m)) a ≤ c
  | [], a, h, _ => h
  | t :: ts, a, h, h2 => by
    rw [List.foldl_cons]
    exact longF m hm ts _ (longP_le h (fun p hp => Nat.le_trans ((pieces_le hm).2 p hp).1 (h2 t (by simp)))) (fun x hx => h2 x (by simp [hx]))
theorem mem_tot {t : Tn} : ∀ {ts : List Tn}, t ∈ ts → t.1.length + t.2.length ≤ totT ts
  | x :: ts, h => by
    unfold totT
    simp only [List.map_cons, List.sum_cons]
    rcases List.mem_cons.1 h with rfl | h
    · omega
    · have := mem_tot h; unfold totT at this; omega
theorem longT_le {m : Nat} (hm : 1 ≤ m) {ts : List Tn} (h : totT ts ≤ 262144) : longT m ts ≤ 262144 :=
  longF m hm ts 1 (by decide) (fun t ht => by have := mem_tot ht; omega)
theorem dec_len (n : Nat) : (Lib.decDigits n).length ≤ n + 1 := by
  induction n using Nat.strongRecOn with
  | ind n ih =>
    unfold Lib.decDigits
    split
    · simp
    · have := ih (n / 10) (by omega)
      rw [List.length_append, List.length_singleton]
      omega
theorem itoa_len (n : Nat) : (Lib.itoa (n : Int)).length ≤ n + 1 := by
  unfold Lib.itoa
  rw [if_neg (by omega), Int.toNat_natCast]
  exact dec_len n
theorem bodyT_len {m : Nat} (hm : 1 ≤ m) : ∀ {ts : List Tn}, totT ts ≤ 262144 → (bodyT m ts).length ≤ totT ts * 1048611 + 8 * ts.length
  | [], _ => by simp [bodyT]
  | t :: ts, h => by
    unfold totT at h ⊢
    simp only [List.map_cons, List.sum_cons, List.length_cons] at h ⊢
    have ih := bodyT_len hm (ts := ts) (by unfold totT; omega)
    have h1 := turnT_len hm (t := t) (by omega)
    have e : bodyT m (t :: ts) = turnT m t ++ bodyT m ts := by unfold bodyT; rfl
    rw [e, List.length_append]
    unfold totT at ih
    have h2 : (t.1.length + t.2.length + (List.map (fun t => t.1.length + t.2.length) ts).sum) * 1048611 = t.1.length * 1048611 + t.2.length * 1048611 + (List.map (fun t => t.1.length + t.2.length) ts).sum * 1048611 := by rw [Nat.add_mul, Nat.add_mul]
    omega
theorem totT_append (a b : List Tn) : totT (a ++ b) = totT a + totT b := by unfold totT; simp
/-- The turns have no more bytes than the events. -/
theorem pstep_tot (s : List Tn × Tn) (e : Ev) : totT (pstep s e).1 + ((pstep s e).2.1.length + (pstep s e).2.2.length) ≤ totT s.1 + (s.2.1.length + s.2.2.length) + e.2.length ∧ (pstep s e).1.length ≤ s.1.length + 1 := by
  unfold pstep
  split
  · simp only; omega
  · split
    · rename_i h
      rw [h]
      simp
    · rw [totT_append]
      simp only [List.length_append, List.length_singleton, List.length_nil]
      unfold totT
      simp <;> omega
theorem psteps_tot : ∀ (l : List Ev) (s : List Tn × Tn), totT (l.foldl pstep s).1 + ((l.foldl pstep s).2.1.length + (l.foldl pstep s).2.2.length) ≤ totT s.1 + (s.2.1.length + s.2.2.length) + (l.map (fun e => e.2.length)).sum ∧ (l.foldl pstep s).1.length ≤ s.1.length + l.length
  | [], s => by simp
  | e :: l, s => by
    rw [List.foldl_cons]
    have h1 := psteps_tot l (pstep s e)
    have h2 := pstep_tot s e
    simp only [List.map_cons, List.sum_cons, List.length_cons]
    omega
theorem fin_tot (s : List Tn × Tn) : totT (fin s) ≤ totT s.1 + (s.2.1.length + s.2.2.length) ∧ (fin s).length ≤ s.1.length + 1 := by
  unfold fin
  split
  · omega
  · rw [totT_append, List.length_append]
    unfold totT
    simp
def totE (l : List Ev) : Nat := (l.map (fun e => e.2.length)).sum
theorem totE_append (a b : List Ev) : totE (a ++ b) = totE a + totE b := by unfold totE; simp
theorem mstep_tot (m : List Ev) (e : Ev) : totE (mstep m e) ≤ totE m + e.2.length := by
  unfold mstep
  split
  · omega
  · split
    · rw [totE_append]; unfold totE; simp
    · rename_i k hk
      split
      · have hm : m = m.dropLast ++ [k] := by
          have hne : m ≠ [] := by rintro rfl; simp at hk
          rw [List.getLast?_eq_some_getLast hne] at hk
          cases hk
          exact (List.dropLast_concat_getLast hne).symm
        rw [totE_append]
        have h2 := congrArg totE hm
        rw [totE_append] at h2
        unfold totE at h2 ⊢
        simp at h2 ⊢
        omega
      · rw [totE_append]; unfold totE; simp
theorem merge_tot : ∀ (l m : List Ev), totE (l.foldl mstep m) ≤ totE m + totE l
  | [], m => by simp [totE]
  | e :: l, m => by
    rw [List.foldl_cons]
    have h1 := merge_tot l (mstep m e)
    have h2 := mstep_tot m e
    have h3 : totE (e :: l) = e.2.length + totE l := rfl
    omega
theorem turnsI_tot (evs : List Ev_.EI) : totT (Ev_.turnsI evs) ≤ Ev_.totI evs ∧ (Ev_.turnsI evs).length ≤ evs.length + 1 := by
  have h1 := fin_tot ((merge (Ev_.sel evs)).foldl pstep ([], ([], [])))
  have h2 := psteps_tot (merge (Ev_.sel evs)) ([], ([], []))
  have h3 := merge_tot (Ev_.sel evs) []
  have h4 := Ev_.sel_tot evs
  have h5 := Ev_.sel_len evs
  have h6 := Ev_.merge_len (Ev_.sel evs) []
  have e1 : (Ev_.sel evs).foldl mstep [] = merge (Ev_.sel evs) := rfl
  have e2 : totT ([] : List Tn) = 0 := rfl
  have e3 : totE ([] : List Ev) = 0 := rfl
  rw [e1] at h3 h6
  rw [e3] at h3
  simp only [e2, List.length_nil] at h1 h2 h6
  unfold Ev_.turnsI
  unfold totE at h3
  omega
end Gn
end Go.Proofs.YtncoedoiakaedaaDoor
