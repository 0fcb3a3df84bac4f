/- What the reference's Same and the law's places tell, in plain Lean: of rows of commands. No condition. -/
import Derived.Test.YteodhnblbehenaaPTclParsesx6
import Derived.Test.YteodhnblbehenaaPTclParsesx7
set_option linter.unusedVariables false
set_option linter.unusedSimpArgs false
namespace Go.Proofs.Yteodhnblbehenaa
open Go.RowKit PTclParses
namespace Tcl
def pkey (x : S41) : Bool × List UInt8 := (x.f0, x.f1.data.toList)
def wkey (x : S38) : Int × List (Bool × List UInt8) := (x.f1, x.f2.map pkey)
def ckey (x : S33) : List (Int × List (Bool × List UInt8)) := x.f1.map wkey
def plkey (x : S33) : Int × List Int := (x.f0, x.f1.map (·.f0))
theorem wrap_succ {i : Int} (h0 : 0 ≤ i) (h : i < 9223372036854775807) : wrap64 (i + 1) = i + 1 := by
  unfold wrap64; omega
theorem drop_cons {α : Type} {l : List α} {i : Nat} (h : i < l.length) : l.drop i = l[i] :: l.drop (i + 1) := List.drop_eq_getElem_cons h
theorem getD_lt {α : Type} {l : List α} {i : Nat} (d : α) (h : i < l.length) : l.getD i d = l[i] := by simp [List.getD, h]
theorem part_eq (x y : S41) : (!(x.f0 == y.f0) || !(x.f1.toList == y.f1.toList)) = !decide (pkey x = pkey y) := by
  unfold pkey
  rw [ByteArray.toList_eq, ByteArray.toList_eq]
  by_cases h1 : x.f0 = y.f0
  · by_cases h2 : x.f1.data.toList = y.f1.data.toList
    · simp [h1, h2]
    · have h3 : ¬ x.f1.data = y.f1.data := fun e => h2 (by rw [e])
      simp [h1, h2, h3]
  · simp [h1]
theorem sameW_go (l m : List S41) (a b c d : Int) (hl : l.length = m.length) (hm : l.length ≤ 9223372036854775807) : ∀ (e i k : Nat), l.length - i ≤ e → i ≤ l.length → e < k →
    cuecardref12_sameWord.l0 k i a b l c d m = some (decide ((l.drop i).map pkey = (m.drop i).map pkey)) := by
  intro e
  induction e with
  | zero =>
    intro i k he hi hk
    obtain ⟨k, rfl⟩ : ∃ q, k = q + 1 := ⟨k - 1, by omega⟩
    simp only [cuecardref12_sameWord.l0]
    rw [if_neg (by omega), List.drop_eq_nil_of_le (by omega), List.drop_eq_nil_of_le (by omega)]; simp
  | succ e ih =>
    intro i k he hi hk
    obtain ⟨k, rfl⟩ : ∃ q, k = q + 1 := ⟨k - 1, by omega⟩
    by_cases hlt : i < l.length
    · simp only [cuecardref12_sameWord.l0]
      rw [if_pos (by omega), if_pos (by omega), if_pos (by omega), wrap_succ (by omega) (by omega)]
      have h1 : rd_T41 l i = l[i] := by unfold rd_T41; exact getD_lt _ hlt
      have h2 : rd_T41 m i = m[i] := by unfold rd_T41; exact getD_lt _ (by omega)
      rw [h1, h2, part_eq, drop_cons hlt, drop_cons (l := m) (i := i) (by omega), List.map_cons, List.map_cons]
      by_cases h : pkey l[i] = pkey m[i]
      · rw [show ((i : Int) + 1) = ((i + 1 : Nat) : Int) by omega, ih (i + 1) k (by omega) (by omega) (by omega)]
        simp [h]
      · simp [h]
    · simp only [cuecardref12_sameWord.l0]
      rw [if_neg (by omega), List.drop_eq_nil_of_le (by omega), List.drop_eq_nil_of_le (by omega)]; simp
theorem sameW_f (x y : S38) (hm : x.f2.length ≤ 9223372036854775807) (k : Nat) (hk : x.f2.length + 1 < k) :
    cuecardref12_sameWord.f k x.f0 x.f1 x.f2 y.f0 y.f1 y.f2 = some (decide (wkey x = wkey y)) := by
  obtain ⟨k, rfl⟩ : ∃ q, k = q + 1 := ⟨k - 1, by omega⟩
  unfold cuecardref12_sameWord.f
  by_cases h1 : x.f1 = y.f1
  · rw [if_pos h1]
    simp only [cuecardref12_sameWord.j0]
    by_cases h2 : x.f2.length = y.f2.length
    · have : ((x.f2.length : Int) != (y.f2.length : Int)) = false := by simp [h2]
      rw [this, if_neg (by decide), show (0 : Int) = ((0 : Nat) : Int) from rfl, sameW_go _ _ _ _ _ _ h2 hm x.f2.length 0 k (by omega) (by omega) (by omega)]
      simp [wkey, h1]
    · have : ((x.f2.length : Int) != (y.f2.length : Int)) = true := by simp; omega
      rw [this, if_pos rfl]
      have : wkey x ≠ wkey y := by
        intro e; apply h2
        have := congrArg (fun z : Int × List (Bool × List UInt8) => z.2.length) e
        simpa [wkey] using this
      simp [this]
  · rw [if_neg h1]
    simp only [cuecardref12_sameWord.j0]
    rw [if_pos trivial]
    have : wkey x ≠ wkey y := by intro e; exact h1 (congrArg Prod.fst e)
    simp [this]
/-- Rows of commands that are no longer than numbers reach. -/
def Fine (l : List S33) : Prop := l.length ≤ 9223372036854775807 ∧ ∀ x ∈ l, x.f1.length ≤ 9223372036854775807 ∧ ∀ y ∈ x.f1, y.f2.length ≤ 9223372036854775807
/-- With enough rounds it is so. -/
def Ev {α : Type} (g : Nat → Option α) (r : α) : Prop := ∃ K, ∀ k, K ≤ k → g k = some r
theorem Ev.step {α : Type} {g h : Nat → Option α} {r : α} (hh : Ev h r) (e : ∀ k, g (k + 1) = h k) : Ev g r := by
  obtain ⟨K, hK⟩ := hh
  refine ⟨K + 1, fun k hk => ?_⟩
  obtain ⟨k, rfl⟩ : ∃ q, k = q + 1 := ⟨k - 1, by omega⟩
  rw [e]; exact hK k (by omega)
theorem Ev.pure {α : Type} {g : Nat → Option α} {r : α} (e : ∀ k, g (k + 1) = some r) : Ev g r := by
  refine ⟨1, fun k hk => ?_⟩
  obtain ⟨k, rfl⟩ : ∃ q, k = q + 1 := ⟨k - 1, by omega⟩
  exact e k
theorem Ev.bind {α β : Type} {g : Nat → Option α} {r : α} {h : Nat → α → Option β} {s : β} (hg : Ev g r) (hh : Ev (fun k => h k r) s) : Ev (fun k => (g k).bind (h k)) s := by
  obtain ⟨K, hK⟩ := hg
  obtain ⟨M, hM⟩ := hh
  exact ⟨max K M, fun k hk => by simp only; rw [hK k (by omega)]; exact hM k (by omega)⟩
theorem Ev.of {α : Type} {g : Nat → Option α} {r s : α} (hg : Ev g r) (e : r = s) : Ev g s := e ▸ hg
theorem rd33 {l : List S33} {i : Nat} (h : i < l.length) : rd_T33 l i = l[i] := by unfold rd_T33; exact getD_lt _ h
theorem rd38 {l : List S38} {i : Nat} (h : i < l.length) : rd_T38 l i = l[i] := by unfold rd_T38; exact getD_lt _ h
theorem cons_dec {α β : Type} [DecidableEq β] (f : α → β) {l m : List α} {i : Nat} (hl : i < l.length) (hm : i < m.length) :
    decide ((l.drop i).map f = (m.drop i).map f) = (decide (f l[i] = f m[i]) && decide ((l.drop (i + 1)).map f = (m.drop (i + 1)).map f)) := by
  rw [drop_cons hl, drop_cons hm, List.map_cons, List.map_cons]
  by_cases h1 : f l[i] = f m[i] <;> simp [h1]
theorem nil_dec {α β : Type} [DecidableEq β] (f : α → β) {l m : List α} {i : Nat} (hl : l.length ≤ i) (hm : m.length ≤ i) :
    decide ((l.drop i).map f = (m.drop i).map f) = true := by
  rw [List.drop_eq_nil_of_le hl, List.drop_eq_nil_of_le hm]; simp
theorem same_go (l m : List S33) (hf : Fine l) (hlm : l.length = m.length) : ∀ (e i : Nat), l.length - i ≤ e → i ≤ l.length →
    Ev (fun k => cuecardref12_Same.l0 k l m i) (decide ((l.drop i).map ckey = (m.drop i).map ckey)) := by
  intro e
  induction e with
  | zero =>
    intro i he hi
    refine Ev.pure fun k => ?_
    simp only [cuecardref12_Same.l0]
    rw [if_neg (by omega), nil_dec _ (by omega) (by omega)]
  | succ e ih =>
    intro i he hi
    by_cases hlt : i < l.length
    · have hb := hf.1
      have hm : i < m.length := by omega
      have hx := hf.2 l[i] (List.getElem_mem hlt)
      rw [cons_dec ckey hlt hm]
      by_cases hn : l[i].f1.length = m[i].f1.length
      · refine Ev.step (h := fun k => cuecardref12_Same.l1 k l m i ((0 : Nat) : Int)) ?_ fun k => by
          simp only [cuecardref12_Same.l0]
          rw [if_pos (by omega), if_pos (by omega), if_pos (by omega), rd33 hlt, rd33 hm, if_pos (by omega)]; rfl
        have inner : ∀ (d j : Nat), l[i].f1.length - j ≤ d → j ≤ l[i].f1.length →
            Ev (fun k => cuecardref12_Same.l1 k l m i j) (decide ((l[i].f1.drop j).map wkey = (m[i].f1.drop j).map wkey) && decide ((l.drop (i + 1)).map ckey = (m.drop (i + 1)).map ckey)) := by
          have stop : ∀ j : Nat, l[i].f1.length ≤ j → Ev (fun k => cuecardref12_Same.l1 k l m i j) (decide ((l[i].f1.drop j).map wkey = (m[i].f1.drop j).map wkey) && decide ((l.drop (i + 1)).map ckey = (m.drop (i + 1)).map ckey)) := fun j hj => by
            rw [nil_dec wkey hj (by omega), Bool.true_and]
            refine Ev.step (ih (i + 1) (by omega) (by omega)) fun k => ?_
            simp only [cuecardref12_Same.l1]
            rw [if_pos (by omega), if_pos (by omega), rd33 hlt, if_neg (by omega), wrap_succ (by omega) (by omega)]; rfl
          intro d
          induction d with
          | zero => intro j hd hj; exact stop j (by omega)
          | succ d ihd =>
            intro j hd hj
            by_cases hjl : j < l[i].f1.length
            · have hjm : j < m[i].f1.length := by omega
              have hs := sameW_f l[i].f1[j] m[i].f1[j] (hx.2 _ (List.getElem_mem hjl))
              have hcall : Ev (fun k => cuecardref12_sameWord.f k l[i].f1[j].f0 l[i].f1[j].f1 l[i].f1[j].f2 m[i].f1[j].f0 m[i].f1[j].f1 m[i].f1[j].f2) (decide (wkey l[i].f1[j] = wkey m[i].f1[j])) := ⟨_, fun k hk => hs k hk⟩
              rw [cons_dec wkey hjl hjm]
              by_cases hw : wkey l[i].f1[j] = wkey m[i].f1[j]
              · refine Ev.step (h := fun k => (cuecardref12_sameWord.f k l[i].f1[j].f0 l[i].f1[j].f1 l[i].f1[j].f2 m[i].f1[j].f0 m[i].f1[j].f1 m[i].f1[j].f2).bind fun t => if t = true then cuecardref12_Same.l1 k l m i ((j + 1 : Nat) : Int) else some false) ?_ fun k => by
                  simp only [cuecardref12_Same.l1]
                  rw [if_pos (by omega), if_pos (by omega), rd33 hlt, if_pos (by omega), if_pos (by omega), if_pos (by omega), rd33 hm, if_pos (by omega), rd38 hjl, rd38 hjm, wrap_succ (by omega) (by have := hx.1; omega)]; rfl
                refine Ev.bind hcall ?_
                rw [decide_eq_true hw]
                simpa using ihd (j + 1) (by omega) (by omega)
              · refine Ev.step (h := fun k => (cuecardref12_sameWord.f k l[i].f1[j].f0 l[i].f1[j].f1 l[i].f1[j].f2 m[i].f1[j].f0 m[i].f1[j].f1 m[i].f1[j].f2).bind fun t => if t = true then cuecardref12_Same.l1 k l m i ((j + 1 : Nat) : Int) else some false) ?_ fun k => by
                  simp only [cuecardref12_Same.l1]
                  rw [if_pos (by omega), if_pos (by omega), rd33 hlt, if_pos (by omega), if_pos (by omega), if_pos (by omega), rd33 hm, if_pos (by omega), rd38 hjl, rd38 hjm, wrap_succ (by omega) (by have := hx.1; omega)]; rfl
                refine Ev.bind hcall ?_
                rw [decide_eq_false hw]
                exact ⟨0, fun k _ => by simp⟩
            · exact stop j (by omega)
        refine (inner l[i].f1.length 0 (by omega) (by omega)).of ?_
        rfl
      · refine Ev.pure fun k => ?_
        simp only [cuecardref12_Same.l0]
        rw [if_pos (by omega), if_pos (by omega), if_pos (by omega), rd33 hlt, rd33 hm, if_neg (by omega)]
        have : ckey l[i] ≠ ckey m[i] := fun e => hn (by simpa [ckey] using congrArg List.length e)
        simp [this]
    · refine Ev.pure fun k => ?_
      simp only [cuecardref12_Same.l0]
      rw [if_neg (by omega), nil_dec _ (by omega) (by omega)]
theorem same_f (l m : List S33) (hf : Fine l) : Ev (fun k => cuecardref12_Same.f k l m) (decide (l.map ckey = m.map ckey)) := by
  unfold cuecardref12_Same.f
  by_cases h : l.length = m.length
  · simp only [h, if_true]
    have := same_go l m hf h l.length 0 (by omega) (by omega)
    simpa using this
  · refine ⟨0, fun k _ => ?_⟩
    simp only
    rw [if_neg (by omega)]
    have : l.map ckey ≠ m.map ckey := fun e => h (by simpa using congrArg List.length e)
    simp [this]
theorem places_go (l m : List S33) (hf : Fine l) (hlm : l.length = m.length) : ∀ (e i : Nat), l.length - i ≤ e → i ≤ l.length →
    Ev (fun k => cuecardlaw12_places.l0 k l m l.length i) (decide ((l.drop i).map plkey = (m.drop i).map plkey)) := by
  intro e
  induction e with
  | zero =>
    intro i he hi
    refine Ev.pure fun k => ?_
    simp only [cuecardlaw12_places.l0]
    rw [if_neg (by omega), nil_dec _ (by omega) (by omega)]
  | succ e ih =>
    intro i he hi
    by_cases hlt : i < l.length
    · have hb := hf.1
      have hm : i < m.length := by omega
      have hx := hf.2 l[i] (List.getElem_mem hlt)
      rw [cons_dec plkey hlt hm]
      by_cases h0 : l[i].f0 = m[i].f0
      · by_cases hn : l[i].f1.length = m[i].f1.length
        · refine Ev.step (h := fun k => cuecardlaw12_places.j1 k l m i l.length i false) ?_ fun k => by
            simp only [cuecardlaw12_places.l0]
            rw [if_pos (by omega), if_pos (by omega), if_pos (by omega), if_pos (by omega), rd33 hlt, rd33 hm, if_pos h0]
            rw [show ((l[i].f1.length : Int) != (m[i].f1.length : Int)) = false by simp [hn]]
          refine Ev.step (h := fun k => cuecardlaw12_places.l1 k l m i l.length i l[i].f1.length ((0 : Nat) : Int)) ?_ fun k => by
            simp only [cuecardlaw12_places.j1]
            rw [if_neg (by decide), if_pos (by omega), if_pos (by omega), rd33 hlt]; rfl
          have inner : ∀ (d j : Nat), l[i].f1.length - j ≤ d → j ≤ l[i].f1.length →
              Ev (fun k => cuecardlaw12_places.l1 k l m i l.length i l[i].f1.length j) (decide ((l[i].f1.drop j).map (·.f0) = (m[i].f1.drop j).map (·.f0)) && decide ((l.drop (i + 1)).map plkey = (m.drop (i + 1)).map plkey)) := by
            have stop : ∀ j : Nat, l[i].f1.length ≤ j → Ev (fun k => cuecardlaw12_places.l1 k l m i l.length i l[i].f1.length j) (decide ((l[i].f1.drop j).map (·.f0) = (m[i].f1.drop j).map (·.f0)) && decide ((l.drop (i + 1)).map plkey = (m.drop (i + 1)).map plkey)) := fun j hj => by
              rw [nil_dec _ hj (by omega), Bool.true_and]
              refine Ev.step (ih (i + 1) (by omega) (by omega)) fun k => ?_
              simp only [cuecardlaw12_places.l1]
              rw [if_neg (by omega), wrap_succ (by omega) (by omega)]; (try rfl)
            intro d
            induction d with
            | zero => intro j hd hj; exact stop j (by omega)
            | succ d ihd =>
              intro j hd hj
              by_cases hjl : j < l[i].f1.length
              · have hjm : j < m[i].f1.length := by omega
                rw [cons_dec (fun y : S38 => y.f0) hjl hjm]
                by_cases hw : l[i].f1[j].f0 = m[i].f1[j].f0
                · refine Ev.step (h := fun k => cuecardlaw12_places.l1 k l m i l.length i l[i].f1.length ((j + 1 : Nat) : Int)) ?_ fun k => by
                    simp only [cuecardlaw12_places.l1]
                    rw [if_pos (by omega), if_pos (by omega), if_pos (by omega), if_pos (by omega), rd33 hlt, if_pos (by omega), if_pos (by omega), rd33 hm, if_pos (by omega), rd38 hjl, rd38 hjm, if_pos hw, wrap_succ (by omega) (by have := hx.1; omega)]; (try rfl)
                  rw [decide_eq_true hw, Bool.true_and]
                  exact ihd (j + 1) (by omega) (by omega)
                · refine Ev.pure fun k => ?_
                  simp only [cuecardlaw12_places.l1]
                  rw [if_pos (by omega), if_pos (by omega), if_pos (by omega), if_pos (by omega), rd33 hlt, if_pos (by omega), if_pos (by omega), rd33 hm, if_pos (by omega), rd38 hjl, rd38 hjm, if_neg hw]
                  rw [decide_eq_false hw, Bool.false_and, Bool.false_and]
              · exact stop j (by omega)
          refine (inner l[i].f1.length 0 (by omega) (by omega)).of ?_
          have : decide (plkey l[i] = plkey m[i]) = decide (l[i].f1.map (·.f0) = m[i].f1.map (·.f0)) := by simp [plkey, h0]
          rw [this]; rfl
        · refine Ev.step (h := fun k => cuecardlaw12_places.j1 k l m i l.length i true) ?_ fun k => by
            simp only [cuecardlaw12_places.l0]
            rw [if_pos (by omega), if_pos (by omega), if_pos (by omega), if_pos (by omega), rd33 hlt, rd33 hm, if_pos h0]
            rw [show ((l[i].f1.length : Int) != (m[i].f1.length : Int)) = true by simp; omega]
          refine Ev.pure fun k => ?_
          simp only [cuecardlaw12_places.j1]
          rw [if_pos trivial]
          have : plkey l[i] ≠ plkey m[i] := fun e => hn (by simpa [plkey] using congrArg (fun z : Int × List Int => z.2.length) e)
          simp [this]
      · refine Ev.step (h := fun k => cuecardlaw12_places.j1 k l m i l.length i true) ?_ fun k => by
          simp only [cuecardlaw12_places.l0]
          rw [if_pos (by omega), if_pos (by omega), if_pos (by omega), if_pos (by omega), rd33 hlt, rd33 hm, if_neg h0]
        refine Ev.pure fun k => ?_
        simp only [cuecardlaw12_places.j1]
        rw [if_pos trivial]
        have : plkey l[i] ≠ plkey m[i] := fun e => h0 (by simpa [plkey] using congrArg Prod.fst e)
        simp [this]
    · refine Ev.pure fun k => ?_
      simp only [cuecardlaw12_places.l0]
      rw [if_neg (by omega), nil_dec _ (by omega) (by omega)]
theorem places_f (l m : List S33) (hf : Fine l) : Ev (fun k => cuecardlaw12_places.f k l m) (decide (l.map plkey = m.map plkey)) := by
  unfold cuecardlaw12_places.f
  by_cases h : l.length = m.length
  · simp only [h, if_true]
    have := places_go l m hf h l.length 0 (by omega) (by omega)
    rw [h] at this
    simpa using this
  · refine ⟨0, fun k _ => ?_⟩
    simp only
    rw [if_neg (by omega)]
    have : l.map plkey ≠ m.map plkey := fun e => h (by simpa using congrArg List.length e)
    simp [this]
end Tcl
end Go.Proofs.Yteodhnblbehenaa
