/- Where a pattern stands, by the reference of layer 8; the first hit of an exact branch alone. No condition. -/
import Derived.Test.YtojgdmpnbgikeaaFirst
import Derived.Test.YtojgdmpnbgikeaaPMatchExactx2
set_option linter.unusedVariables false
set_option linter.unusedSimpArgs false
namespace Go.Proofs.Ytojgdmpnbgikeaa
open Go.RowKit PMatchExact YtojgdmpnbgikeaaW.PrintWords
namespace Mt
open Kmp
theorem ev_of {α : Type} {g : Nat → Option α} {r s : α} (h : Kmp.Ev g r) (e : r = s) : Kmp.Ev g s := e ▸ h
/-- Does p stand at i in T? -/
def occ (T p : List Int) (i : Nat) : Bool := decide (i + p.length ≤ T.length ∧ (T.drop i).take p.length = p)
theorem at_go (T p : List Int) (i : Nat) (hT : T.length ≤ 1000) (hi : i + p.length ≤ T.length) : ∀ (e j : Nat), p.length - j ≤ e → j ≤ p.length →
    Kmp.Ev (fun k => cuecardref08_At.l0 k T p i j) (decide ((T.drop (i + j)).take (p.length - j) = p.drop j)) := by
  intro e
  induction e with
  | zero =>
    intro j he hj
    refine Kmp.Ev.pure fun k => ?_
    simp only [cuecardref08_At.l0]
    rw [if_neg (by omega), show p.length - j = 0 by omega, List.drop_eq_nil_of_le (show p.length ≤ j by omega)]; simp
  | succ e ih =>
    intro j he hj
    by_cases hl : j < p.length
    · have hij : i + j < T.length := by omega
      have hs : (T.drop (i + j)).take (p.length - j) = T[i + j] :: (T.drop (i + j + 1)).take (p.length - (j + 1)) := by
        rw [List.drop_eq_getElem_cons hij, show p.length - j = (p.length - (j + 1)) + 1 by omega, List.take_succ_cons]
      have hp : p.drop j = p[j] :: p.drop (j + 1) := List.drop_eq_getElem_cons hl
      by_cases h : T[i + j] = p[j]
      · refine Kmp.Ev.step (h := fun k => cuecardref08_At.l0 k T p i ((j + 1 : Nat) : Int)) ?_ fun k => ?_
        · have := ih (j + 1) (by omega) (by omega)
          rw [hs, hp]
          have e2 : decide (T[i + j] :: (T.drop (i + j + 1)).take (p.length - (j + 1)) = p[j] :: p.drop (j + 1)) = decide ((T.drop (i + (j + 1))).take (p.length - (j + 1)) = p.drop (j + 1)) := by
            rw [decide_eq_decide, List.cons.injEq, Nat.add_assoc]
            exact ⟨fun z => z.2, fun z => ⟨h, z⟩⟩
          rw [e2]; exact this
        · simp only [cuecardref08_At.l0]
          rw [if_pos (by omega), wrap_in (by omega) (by omega), if_pos (by omega), if_pos (by omega), if_pos (by omega)]
          rw [show ((i : Int) + (j : Int)) = ((i + j : Nat) : Int) by omega, rd_get hij, rd_get hl, if_pos h, wrap_in (by omega) (by omega)]; rfl
      · refine Kmp.Ev.pure fun k => ?_
        simp only [cuecardref08_At.l0]
        rw [if_pos (by omega), wrap_in (by omega) (by omega), if_pos (by omega), if_pos (by omega), if_pos (by omega)]
        rw [show ((i : Int) + (j : Int)) = ((i + j : Nat) : Int) by omega, rd_get hij, rd_get hl, if_neg h, hs, hp]
        rw [decide_eq_false (fun z => h (List.cons.inj z).1)]
    · refine Kmp.Ev.pure fun k => ?_
      simp only [cuecardref08_At.l0]
      rw [if_neg (by omega), show p.length - j = 0 by omega, List.drop_eq_nil_of_le (show p.length ≤ j by omega)]; simp
theorem at_f (T p : List Int) (i : Nat) (hT : T.length ≤ 1000) (hp : p.length ≤ 1000) (hi : i ≤ T.length) : Kmp.Ev (fun k => cuecardref08_At.f k T p i) (occ T p i) := by
  unfold cuecardref08_At.f
  have e1 : ∀ k, (if (i : Int) < 0 then cuecardref08_At.j0 k T p i true else if (i : Int) > (T.length : Int) then cuecardref08_At.j0 k T p i true else cuecardref08_At.j0 k T p i (decide ((p.length : Int) > wrap64 ((T.length : Int) - (i : Int))))) = cuecardref08_At.j0 k T p i (decide ((p.length : Int) > (T.length : Int) - (i : Int))) := fun k => by
    rw [if_neg (by omega), if_neg (by omega), wrap_in (by omega) (by omega)]
  simp only [e1]
  by_cases h : i + p.length ≤ T.length
  · rw [decide_eq_false (by omega)]
    refine Kmp.Ev.step (h := fun k => cuecardref08_At.l0 k T p i ((0 : Nat) : Int)) ?_ fun k => ?_
    · refine ev_of ?_ (show decide ((T.drop (i + 0)).take (p.length - 0) = p.drop 0) = occ T p i from ?_)
      · exact at_go T p i hT h p.length 0 (by omega) (by omega)
      · simp [occ, h]
    · simp only [cuecardref08_At.j0]
      rw [if_neg (by decide)]; rfl
  · rw [decide_eq_true (by omega)]
    refine Kmp.Ev.pure fun k => ?_
    simp only [cuecardref08_At.j0]
    rw [if_pos trivial]
    simp [occ, h]
def occs (T p : List Int) (i n : Nat) : List Int := ((List.range' i n).filter (occ T p)).map fun j : Nat => (j : Int)
theorem all_go (T p : List Int) (hT : T.length ≤ 1000) (hp : p.length ≤ 1000) : ∀ (n i : Nat) (out : List Int), T.length + 1 - i = n → i ≤ T.length + 1 → out.length ≤ i →
    Kmp.Ev (fun k => cuecardref08_All.l0 k T p out i) (out ++ occs T p i n) := by
  intro n
  induction n with
  | zero =>
    intro i out hn hi ho
    refine Kmp.Ev.pure fun k => ?_
    simp only [cuecardref08_All.l0]
    rw [if_neg (by omega)]; simp [occs]
  | succ n ih =>
    intro i out hn hi ho
    refine Kmp.Ev.step (h := fun k => (cuecardref08_At.f k T p i).bind fun t => if t = true then cuecardref08_All.l0 k T p (out ++ [(i : Int)]) ((i + 1 : Nat) : Int) else cuecardref08_All.l0 k T p out ((i + 1 : Nat) : Int)) (Kmp.Ev.bind (at_f T p i hT hp (by omega)) ?_) fun k => ?_
    · cases h : occ T p i with
      | true =>
        simp only [if_true]
        refine ev_of (ih (i + 1) (out ++ [(i : Int)]) (by omega) (by omega) (by simp; omega)) ?_
        simp [occs, List.range'_succ, List.filter_cons, h]
      | false =>
        simp only [Bool.false_eq_true, if_false]
        refine ev_of (ih (i + 1) out (by omega) (by omega) (by omega)) ?_
        simp [occs, List.range'_succ, List.filter_cons, h]
    · simp only [cuecardref08_All.l0]
      rw [if_pos (by omega)]
      congr 1
      funext t
      rw [wrap_in (by omega) (by omega), if_pos (show out.length < 17592186044416 by omega)]; rfl
def allOcc (T p : List Int) : List Int := occs T p 0 (T.length + 1)
theorem all_any (w : World) (A B : Option Addr) (c e n m : Nat) (T p : List Int) (hn : T.length = n) (hm : p.length = m) (hA : Sl w 1 (.slice A n c) n (cellsOf .i64 T)) (hB : Sl w 1 (.slice B m e) m (cellsOf .i64 p)) (hT : n ≤ 1000) (hp : m ≤ 1000) :
    Calls Try.prog 20 #[.slice A n c, .slice B m e] w fun e w' => ∃ L cl, e = .returned (.slice L (allOcc T p).length cl) ∧ Sl w' 1 (.slice L (allOcc T p).length cl) (allOcc T p).length (cellsOf .i64 (allOcc T p)) ∧ Chg [] w w' := by
  subst hn hm
  obtain ⟨K, hK⟩ := all_go T p hT hp (T.length + 1) 0 [] (by omega) (by omega) (by simp)
  have hc : T.length ≤ c := by obtain ⟨A0, c0, e0, _, h10, _⟩ := hA; simp at e0; omega
  have he : p.length ≤ e := by obtain ⟨A0, c0, e0, _, h10, _⟩ := hB; simp at e0; omega
  have h := hK K (Nat.le_refl _)
  rw [List.nil_append] at h
  refine (cuecardref08_All.calls K A c T B e p (allOcc T p) w (kd_ints hA) hc (kd_ints hB) he h).mono ?_
  rintro e w' ⟨v, rfl, hR, hb⟩
  obtain ⟨L, cl, rfl, -, hS, -⟩ := sl_of_R hR
  exact ⟨L, cl, rfl, hS, Chg.of_below hb⟩
/-- A text's end is a pattern just if the pattern stands there. -/
theorem suf_occ {b p : List UInt8} {e : Nat} (he : e ≤ b.length) : p <:+ b.take e ↔ p.length ≤ e ∧ occ (ns b) (ns p) (e - p.length) = true := by
  have key : ∀ i, i + p.length = e → (((ns b).drop i).take (ns p).length = ns p ↔ p <:+ b.take e) := fun i hi => by
    have e1 : ((ns b).drop i).take (ns p).length = ns ((b.drop i).take p.length) := by simp [ns]
    have e2 : (b.drop i).take p.length = (b.take e).drop i := by rw [List.drop_take, show e - i = p.length by omega]
    rw [e1, e2, List.suffix_iff_eq_drop, List.length_take, Nat.min_eq_left he, show e - p.length = i by omega]
    constructor
    · intro h; exact (ns_inj h).symm
    · intro h; rw [← h]
  constructor
  · intro h
    have hl := h.length_le
    rw [List.length_take] at hl
    refine ⟨by omega, ?_⟩
    unfold occ
    rw [decide_eq_true_eq]
    exact ⟨by simp [ns_length]; omega, (key (e - p.length) (by omega)).2 h⟩
  · rintro ⟨h1, h2⟩
    unfold occ at h2
    rw [decide_eq_true_eq] at h2
    exact (key (e - p.length) (by omega)).1 h2.2
theorem hit_exact {M : Nat} {p b : List UInt8} {e : Nat} (hM : p.length ≤ M) (he : e ≤ b.length) : hitOf M [⟨0, p⟩] (b.take e) = if p.length ≤ e ∧ occ (ns b) (ns p) (e - p.length) = true then some (0, e - p.length) else none := by
  have h := from_exact (most := M) (x := ⟨0, p⟩) (T := b.take e) rfl hM
  rw [List.length_take, Nat.min_eq_left he] at h
  rw [hitOf, h]
  by_cases hs : p <:+ b.take e
  · rw [if_pos hs, if_pos ((suf_occ he).1 hs)]
  · rw [if_neg hs, if_neg (fun h => hs ((suf_occ he).2 h))]; rfl
theorem hit_exact_long {M : Nat} {p b : List UInt8} (hM : M < p.length) : hitOf M [⟨0, p⟩] b = none := by
  rw [hitOf, from_long rfl hM]; rfl
theorem occ_le {b p : List UInt8} {i : Nat} (h : occ (ns b) (ns p) i = true) : i + p.length ≤ b.length := by
  unfold occ at h
  rw [decide_eq_true_eq, ns_length, ns_length] at h
  exact h.1
/-- The first place of a pattern tells the first hit. -/
theorem exact_first {M : Nat} {p b : List UInt8} : (M < p.length ∨ allOcc (ns b) (ns p) = [] → firstOf M [⟨0, p⟩] b = none) ∧
    (p.length ≤ M → ∀ (i : Int) (r : List Int), allOcc (ns b) (ns p) = i :: r → ∃ j : Nat, i = j ∧ j + p.length ≤ b.length ∧ firstOf M [⟨0, p⟩] b = some (0, j, j + p.length)) := by
  have hf : ((List.range ((ns b).length + 1)).filter (occ (ns b) (ns p))).map (fun j : Nat => (j : Int)) = allOcc (ns b) (ns p) := by
    unfold allOcc occs; rw [List.range_eq_range']
  constructor
  · intro h
    refine first_none fun e he => ?_
    rcases h with h | h
    · exact hit_exact_long h
    · rcases Nat.lt_or_ge M p.length with hM | hM
      · exact hit_exact_long hM
      · rw [hit_exact hM he, if_neg]
        rintro ⟨h1, h2⟩
        rw [← hf, List.map_eq_nil_iff, List.filter_eq_nil_iff] at h
        exact h (e - p.length) (by rw [List.mem_range, ns_length]; omega) h2
  · intro hM i r h
    rw [← hf] at h
    obtain ⟨j, r', h1, rfl, -⟩ := List.map_eq_cons_iff.1 h
    have h2 : (List.range ((ns b).length + 1)).find? (occ (ns b) (ns p)) = some j := by rw [← List.head?_filter, h1]; rfl
    rw [List.find?_range_eq_some] at h2
    obtain ⟨h3, -, h4⟩ := h2
    have hle := occ_le h3
    refine ⟨j, rfl, hle, ?_⟩
    have := first_hit (most := M) (l := [⟨0, p⟩]) (b := b) (k := j + p.length) (p := (0, j)) hle (fun e he => ?_) ?_
    · exact this
    · rw [hit_exact hM (by omega), if_neg]
      rintro ⟨h5, h6⟩
      have := h4 (e - p.length) (by omega)
      rw [h6] at this; cases this
    · rw [hit_exact hM hle, if_pos ⟨by omega, by rw [show j + p.length - p.length = j by omega]; exact h3⟩, show j + p.length - p.length = j by omega]
end Mt
end Go.Proofs.Ytojgdmpnbgikeaa
