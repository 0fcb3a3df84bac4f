/- Rows of commands as the printed texts read them; contracts of the reference's Same and the law's places over these. Conditions: as they state. -/
import Derived.Test.YteodhnblbehenaaTclSameP
import Derived.Test.YteodhnblbehenaaTclAlive
set_option linter.unusedVariables false
set_option linter.unusedSimpArgs false
namespace Go.Proofs.Yteodhnblbehenaa
open Go.RowKit PTclParses Tcl YteodhnblbehenaaW.PrintWords
def kpart (p : Part) : S41 := ⟨p.var, bstr p.s⟩
def kword (w : Word) : S38 := ⟨w.at_, w.kind, w.parts.map kpart⟩
def kcmd (c : Cmd) : S33 := ⟨c.at_, c.words.map kword⟩
theorem kd_of_sl {α : Type} {d : Kd α} {w : World} {sz n c : Nat} {A : Option Addr} {xs : List Value} (h : Sl w sz (.slice A n c) n xs) (hsz : d.sz = sz) (ys : List α) (hl : ys.length = n) (hm : n ≤ 9223372036854775807) (h0 : 0 < sz)
    (hk : ∀ j y, ys[j]? = some y → ∃ cs, cs.length = sz ∧ d.K w y cs ∧ ∀ i u, cs[i]? = some u → xs[j * sz + i]? = some u) : d.C w A n ys := by
  refine ⟨hl, hm, fun hn => ?_⟩
  obtain ⟨b, o, rfl, hr⟩ := h.row (by rw [h.len]; exact Nat.mul_pos hn h0)
  refine ⟨_, rfl, fun j y hj => ?_⟩
  obtain ⟨cs, h1, h2, h3⟩ := hk j y hj
  refine ⟨cs, by rw [h1, hsz], h2, fun i u hi => ?_⟩
  have := hr _ _ (h3 i u hi)
  have ha : (⟨b, o, none⟩ : Addr).add (j * d.sz + i) = ⟨b, o + (j * sz + i), none⟩ := by rw [hsz]; unfold Addr.add; split <;> simp_all
  rw [ha]; exact this
theorem sl_max {w : World} {size : Nat} {A : Option Addr} {n c : Nat} {xs : List Value} (h : Sl w size (.slice A n c) n xs) : n ≤ c ∧ c ≤ maxLen := by
  obtain ⟨A0, c0, e0, h0, h1, h2, -⟩ := h
  simp at e0
  omega
theorem kparts {w : World} {A : Option Addr} {c : Nat} {ps : List Part} (h : PartsAt w (.slice A ps.length c) ps) : k41.C w A (ps.map kpart).length (ps.map kpart) := by
  have hm := sl_max h
  unfold maxLen at hm
  rw [List.length_map]
  refine kd_of_sl h rfl _ (by simp) (by omega) (by decide) fun j y hj => ?_
  rw [List.getElem?_map] at hj
  obtain ⟨p, hp, rfl⟩ := Option.map_eq_some_iff.1 hj
  have hg := parts_get ps j p hp
  refine ⟨_, rfl, k41_mk w (kpart p), fun i u hi => ?_⟩
  match i, hi with
  | 0, hi => cases hi; exact hg.1
  | 1, hi => cases hi; exact hg.2
theorem kwords {w : World} {base : Nat} {row : Option Nat} {A : Option Addr} {c : Nat} {xs : List Value} {ws : List Word} (h : Sl w 3 (.slice A ws.length c) ws.length xs) (hX : WordsAt w base row xs ws) : k38.C w A (ws.map kword).length (ws.map kword) := by
  have hm := sl_max h
  unfold maxLen at hm
  rw [List.length_map]
  refine kd_of_sl h rfl _ (by simp) (by omega) (by decide) fun j y hj => ?_
  rw [List.getElem?_map] at hj
  obtain ⟨wd, hp, rfl⟩ := Option.map_eq_some_iff.1 hj
  obtain ⟨A1, c1, h1, h2, h3, h4, -⟩ := hX.2 j wd hp
  have hm1 := sl_max h4
  refine ⟨_, rfl, k38_mk w (kword wd) (A2 := A1) (c2 := c1) (by simpa [kword] using hm1.1) (kparts h4), fun i u hi => ?_⟩
  match i, hi with
  | 0, hi => cases hi; exact h1
  | 1, hi => cases hi; exact h2
  | 2, hi => cases hi; simpa [kword] using h3
theorem kcmds {w : World} {base : Nat} {row : Option Nat} {A : Option Addr} {n c : Nat} {xs : List Value} {cs : List Cmd} (h : Sl w 2 (.slice A n c) n xs) (hX : CmdsAt w base row xs cs) (hn : n = cs.length) : k33.C w A n (cs.map kcmd) := by
  subst hn
  have hm := sl_max h
  unfold maxLen at hm
  refine kd_of_sl h rfl _ (by simp) (by omega) (by decide) fun j y hj => ?_
  rw [List.getElem?_map] at hj
  obtain ⟨cm, hp, rfl⟩ := Option.map_eq_some_iff.1 hj
  obtain ⟨A1, c1, ys, h1, h2, h4, h5, -⟩ := hX.2 j cm hp
  have hm1 := sl_max h4
  refine ⟨_, rfl, k33_mk w (kcmd cm) (A1 := A1) (c1 := c1) (by simpa [kcmd] using hm1.1) (kwords h4 h5), fun i u hi => ?_⟩
  match i, hi with
  | 0, hi => cases hi; exact h1
  | 1, hi => cases hi; simpa [kcmd] using h2
/-- A piece of a row. -/
theorem kd_piece {α : Type} {d : Kd α} {w : World} {A : Option Addr} {n : Nat} {ys : List α} (h : d.C w A n ys) (i m : Nat) (hi : i + m ≤ n) (A' : Option Addr) (hA : 0 < m → A' = A.map (·.add (i * d.sz))) : d.C w A' m ((ys.drop i).take m) := by
  refine ⟨by have := h.1; simp; omega, by have := h.2.1; omega, fun hm => ?_⟩
  obtain ⟨ad, rfl, hr⟩ := h.2.2 (by omega)
  refine ⟨ad.add (i * d.sz), by rw [hA hm]; rfl, fun j y hj => ?_⟩
  have hy : ys[i + j]? = some y := by
    rw [List.getElem?_take] at hj
    split at hj
    · rw [List.getElem?_drop] at hj; exact hj
    · cases hj
  obtain ⟨c, h1, h2, h3⟩ := hr _ _ hy
  refine ⟨c, h1, h2, fun k u hk => ?_⟩
  have := h3 k u hk
  rw [addr_add_add]
  rw [Nat.add_mul, Nat.add_assoc] at this
  exact this
theorem kd_mem {α : Type} {d : Kd α} {w : World} {A : Option Addr} {n : Nat} {l : List α} (h : d.C w A n l) {x : α} (hx : x ∈ l) : ∃ cs, d.K w x cs := by
  obtain ⟨j, hj, rfl⟩ := List.getElem_of_mem hx
  obtain ⟨ad, rfl, hr⟩ := h.2.2 (by have := h.1; omega)
  obtain ⟨cs, -, h2, -⟩ := hr j _ (List.getElem?_eq_getElem hj)
  exact ⟨cs, h2⟩
theorem kd_fine {w : World} {A : Option Addr} {n : Nat} {l : List S33} (h : k33.C w A n l) : Fine l := by
  refine ⟨by rw [h.1]; exact h.2.1, fun x hx => ?_⟩
  obtain ⟨cs, hk⟩ := kd_mem h hx
  obtain ⟨A1, c1, rfl, l1, g1⟩ := k33_open hk
  refine ⟨g1.2.1, fun y hy => ?_⟩
  obtain ⟨cs, hk⟩ := kd_mem g1 hy
  obtain ⟨A2, c2, rfl, l2, g2⟩ := k38_open hk
  exact g2.2.1
/-- `s[i:]` of any row, as one run equation. -/
theorem slice_from_kd {P : Program} (t e : TypeId) (ht : P.underlying t = some (.slice e)) {z : Value} {size bytes : Nat} (hi : (P.info? e).map (fun i => (i.zero, i.size, i.bytes)) = some (some z, size, bytes))
    {A : Option Addr} {n c : Nat} (hn : n ≤ c) (i : Int) (h0 : 0 ≤ i) (n' : Nat) (h1 : i + n' = n) :
    ∃ A' c', (∀ w' : World, (Instr.slice t (.slice A n c) (some (.int .i64 i)) none none).run P w' = .ok (.slice A' n' c') w') ∧ n' ≤ c' ∧ c' ≤ c ∧ (0 < n' → A' = A.map (·.add (i.toNat * size))) := by
  have he : P.elem t = e := by simp [Program.elem, ht]
  obtain rfl : n' = n - i.toNat := by omega
  refine ⟨if c = i.toNat then A else A.map (·.add (i.toNat * size)), c - i.toNat, fun w' => ?_, by omega, by omega, fun hp => by rw [if_neg (by omega)]⟩
  rw [run_slice_l w' t A n c (by rw [he]; exact ht) .i64 i h0 (by omega)]
  obtain ⟨i0, hi0, hz⟩ := Option.map_eq_some_iff.1 hi
  simp only [Prod.mk.injEq] at hz
  rw [he]
  simp [sizeOf, typeInfo, hi0, Result.andThen, sliced, hz.2.1]
theorem kd_take {α : Type} {d : Kd α} {w : World} {A : Option Addr} {n : Nat} {ys : List α} (h : d.C w A n ys) (m : Nat) (hm : m ≤ n) : d.C w A m (ys.take m) := by
  have := kd_piece h 0 m (by omega) A (fun _ => by cases A <;> simp [Addr.add])
  simpa using this
theorem kd_drop {α : Type} {d : Kd α} {w : World} {A A' : Option Addr} {n : Nat} {ys : List α} (h : d.C w A n ys) (i m : Nat) (hm : i + m = n) (hA : 0 < m → A' = A.map (·.add (i * d.sz))) : d.C w A' m (ys.drop i) := by
  have := kd_piece h i m (by omega) A' hA
  rwa [List.take_of_length_le (by have := h.1; simp; omega)] at this
theorem same_any (w : World) (A B : Option Addr) (c e : Nat) (l m : List S33) (n k : Nat) (hn : l.length = n) (hk : m.length = k) (h1 : k33.C w A n l) (h2 : k33.C w B k m) (hc : n ≤ c) (he : k ≤ e) :
    Calls Try.prog 14 #[.slice A n c, .slice B k e] w fun e w' => e = .returned (.bool (decide (l.map ckey = m.map ckey))) ∧ Chg [] w w' := by
  subst hn hk
  obtain ⟨K, hK⟩ := same_f l m (kd_fine h1)
  exact (cuecardref12_Same.calls K A c l B e m _ w h1 hc h2 he (hK K (Nat.le_refl _))).mono fun e w' h => ⟨h.1, Chg.of_below h.2⟩
theorem places_any (w : World) (A B : Option Addr) (c e : Nat) (l m : List S33) (n k : Nat) (hn : l.length = n) (hk : m.length = k) (h1 : k33.C w A n l) (h2 : k33.C w B k m) (hc : n ≤ c) (he : k ≤ e) :
    Calls Try.prog 15 #[.slice A n c, .slice B k e] w fun e w' => e = .returned (.bool (decide (l.map plkey = m.map plkey))) ∧ Chg [] w w' := by
  subst hn hk
  obtain ⟨K, hK⟩ := places_f l m (kd_fine h1)
  refine (cuecardlaw12_places.calls K A c l B e m _ w h1 hc h2 he (hK K (Nat.le_refl _))).mono fun e w' h => ⟨h.1, ?_⟩
  obtain ⟨-, q, rfl⟩ := h
  exact (Chg.refl [] w).drewN q
end Go.Proofs.Yteodhnblbehenaa
