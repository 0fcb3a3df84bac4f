/- Contract of the closure 'flush' of package tcl. Conditions: as it states. -/
import Derived.Test.YtncoedoiakaedaaDoorTclEsc
set_option linter.unusedVariables false
set_option linter.unusedSimpArgs false
namespace Go.Proofs.YtncoedoiakaedaaDoor
open Go.RowKit Tcl
def nums (l : List UInt8) : List Int := l.map fun c => (c.toNat : Int)
theorem nums_length (l : List UInt8) : (nums l).length = l.length := by simp [nums]
theorem nums_append (a b : List UInt8) : nums (a ++ b) = nums a ++ nums b := by simp [nums]
theorem str_nums (l : List UInt8) : strOfNums (nums l) = bstr l := by
  have hid : ((fun n : Int => UInt8.ofNat n.toNat) ∘ fun c : UInt8 => (c.toNat : Int)) = id := by funext c; simp
  simp [strOfNums, nums, bstr, hid]
theorem partsCells_length (l : List Part) : (partsCells l).length = l.length * 2 := by
  induction l with
  | nil => rfl
  | cons p l ih =>
    have e : partsCells (p :: l) = partCells p ++ partsCells l := by simp [partsCells]
    rw [e, List.length_append, ih]; simp [partCells]; omega
theorem partsCells_snoc (l : List Part) (p : Part) : partsCells (l ++ [p]) = partsCells l ++ partCells p := by simp [partsCells]
theorem Tryd.info_u8 : (Tryd.prog.info? 5).map (fun i => (i.zero, i.size, i.bytes)) = some (some (.int .u8 0), 1, 1) := by kernel_rfl
theorem Tryd.info_part : (Tryd.prog.info? 66).map (fun i => (i.zero, i.size, i.bytes)) = some (some (.agg #[.bool false, .string ByteArray.empty]), 2, 24) := by kernel_rfl
/-- The two variables of `parts`: the parts so far, the text so far. -/
def PSt (w : World) (base bl bt : Nat) (l : List Part) (text : List UInt8) : Prop :=
  ∃ A c A2 c2, w.heap[bl]? = some (.cells #[.slice A l.length c] 62 (0, 0)) ∧ w.heap[bt]? = some (.cells #[.slice A2 text.length c2] 35 (0, 0)) ∧
    w.ownsRow base 66 2 (.slice A l.length c) l.length (partsCells l) ∧ w.ownsRow base 5 1 (.slice A2 text.length c2) text.length (cellsOf .u8 (nums text)) ∧ base ≤ bl ∧ base ≤ bt
theorem own_not {w : World} {base : Nat} {e : TypeId} {size n : Nat} {v : Value} {xs : List Value} (h : w.ownsRow base e size v n xs) {k : Nat} {cs : Array Value} {t : TypeId} {f : Nat × Nat} (hk : w.heap[k]? = some (.cells cs t f)) (ht : t ≠ e) : v.ownBlock ≠ some k := by
  rcases h.2 with ⟨rfl, _⟩ | ⟨g, cap, cur, rfl, _, hg, _⟩
  · simp [Value.ownBlock]
  · simp only [Value.ownBlock]
    rintro e'
    cases e'
    rw [hk] at hg
    simp at hg
    exact ht hg.2.1
theorem PSt.chg {S : List Nat} {w w' : World} {base bl bt : Nat} {l : List Part} {text : List UInt8} (h : PSt w base bl bt l text) (hc : Chg S w w') (hS : ∀ k ∈ S, ∃ cs f, w.heap[k]? = some (.cells cs 179 f)) : PSt w' base bl bt l text := by
  obtain ⟨A, c, A2, c2, h1, h2, h3, h4, h5, h6⟩ := h
  have n1 : bl ∉ S := fun hm => by obtain ⟨cs, f, e⟩ := hS _ hm; rw [h1] at e; simp at e
  have n2 : bt ∉ S := fun hm => by obtain ⟨cs, f, e⟩ := hS _ hm; rw [h2] at e; simp at e
  refine ⟨A, c, A2, c2, hc.heap h1 n1, hc.heap h2 n2, own_chg h3 hc (fun k hk hm => ?_), own_chg h4 hc (fun k hk hm => ?_), h5, h6⟩
  · obtain ⟨cs, f, e⟩ := hS _ hm; exact own_not h3 e (by decide) hk
  · obtain ⟨cs, f, e⟩ := hS _ hm; exact own_not h4 e (by decide) hk
set_option maxHeartbeats 2000000 in
theorem flush_any (w0 w : World) (S : List Nat) (bl bt : Nat) (l : List Part) (text : List UInt8) (h : PSt w w0.heap.size bl bt l text) (hC : Chg S w0 w) (hl : l.length ≤ 20000000) (ht : text.length ≤ 20000000) :
    Calls Tryd.prog 107 #[.pointer (some ⟨bt, 0, none⟩), .pointer (some ⟨bl, 0, none⟩)] w fun e w' => e = .returned (.tuple #[]) ∧ PSt w' w0.heap.size bl bt (flush l text) [] ∧ Chg S w0 w' ∧ ∀ (k : Nat) (cs : Array Value) (f : Nat × Nat), w.heap[k]? = some (Obj.cells cs 179 f) → w'.heap[k]? = some (Obj.cells cs 179 f) := by
  obtain ⟨A, c, A2, c2, h1, h2, h3, h4, h5, h6⟩ := h
  have c1 : w.cell? ⟨bl, 0, none⟩ = some (.slice A l.length c) := by simp [World.cell?, h1]
  have c2' : w.cell? ⟨bt, 0, none⟩ = some (.slice A2 text.length c2) := by simp [World.cell?, h2]
  by_cases ht0 : text = []
  · subst ht0
    have hfl : flush l [] = l := by simp [flush]
    rw [hfl]
    have h := Lib.hid (And.intro h1 (And.intro h2 (And.intro h3 (And.intro h4 (And.intro h5 h6)))))
    clear h1 h2 h3 h4 h5 h6
    simp only [List.length_nil] at c2'
    go_enter Tryd.func107, Tryd.ntmps107
    go_wp2
    go_end0
    obtain ⟨h1, h2, h3, h4, h5, h6⟩ := h.out
    exact ⟨rfl, ⟨A, c, A2, c2, h1, h2, h3, h4, h5, h6⟩, hC, fun _ _ _ h => h⟩
  · have hpos : 0 < text.length := List.length_pos_iff.2 ht0
    have hfl : flush l text = l ++ [⟨false, text⟩] := by simp [flush, ht0]
    rw [hfl]
    have hconv := sl_string (P := Tryd.prog) (own_sl h4) 35 5 9 Tryd.underlying35 Tryd.underlying5 Tryd.underlying9
    rw [str_nums] at hconv
    have hbase := hC.size
    have nb : bl ≠ bt := fun e => by rw [e, h2] at h1; simp at h1
    have k1 := own_not h3 h1 (by decide)
    have k2 := own_not h3 h2 (by decide)
    have hC' := Lib.hid hC
    have K := Lib.hid (And.intro h1 (And.intro h2 (And.intro h3 (And.intro h4 (And.intro h5 h6)))))
    have f1 : w.frozen? ⟨bl, 0, none⟩ = false := by simp [World.frozen?, h1]
    clear h1 h2 h4 h5 h6 hC
    go_enter Tryd.func107, Tryd.ntmps107
    go_wp2_with (refine wpList_one_more rfl rfl 62 66 (.tmp 8) (.tmp 5) 9 rfl rfl w0.heap.size (.agg #[.bool false, .string ByteArray.empty]) 2 24 Tryd.underlying62 Tryd.info_part rfl (by decide) (by decide) [.bool false, .string (bstr text)] rfl (by intro u hu; simp at hu; rcases hu with rfl | rfl <;> rfl) _ l.length (partsCells l) h3 rfl rfl rfl (by omega) (by decide) hbase ?_)
    intro A' c' w1 hO' hCh
    obtain ⟨h1, h2, h3', h4, h5, h6⟩ := K.out
    have m1 : bl ∉ (Value.slice A l.length c).ownBlock.toList := fun hm => k1 (by simpa using hm)
    have m2 : bt ∉ (Value.slice A l.length c).ownBlock.toList := fun hm => k2 (by simpa using hm)
    have G1 := hCh.heap h1 m1
    have G2 := hCh.heap h2 m2
    have o1 := own_not hO' G1 (by decide)
    have o2 := own_not hO' G2 (by decide)
    have q1 : w1.cell? ⟨bl, 0, none⟩ = some (.slice A l.length c) := by simp [World.cell?, G1]
    have q2 : w1.frozen? ⟨bl, 0, none⟩ = false := by simp [World.frozen?, G1]
    have G2' := blk_set_ne G2 (k := bl) (fun e => nb e.symm) 0 (.slice A' (l.length + 1) c')
    have q3 : (w1.setCell ⟨bl, 0, none⟩ (.slice A' (l.length + 1) c')).cell? ⟨bt, 0, none⟩ = some (.slice A2 text.length c2) := by simp only [World.cell?, G2']; rfl
    have q4 : (w1.setCell ⟨bl, 0, none⟩ (.slice A' (l.length + 1) c')).frozen? ⟨bt, 0, none⟩ = false := by simp only [World.frozen?, G2']; rfl
    have hpk : ∀ (k : Nat) (cs : Array Value) (f : Nat × Nat), w.heap[k]? = some (Obj.cells cs 179 f) → ((w1.setCell ⟨bl, 0, none⟩ (.slice A' (l.length + 1) c')).setCell ⟨bt, 0, none⟩ (.slice none 0 0)).heap[k]? = some (Obj.cells cs 179 f) := fun k cs f hk => by
      have n1 : k ≠ bl := fun e => by rw [e, h1] at hk; simp at hk
      have n2 : k ≠ bt := fun e => by rw [e, h2] at hk; simp at hk
      have n3 := own_not h3' hk (by decide)
      exact blk_set_ne (blk_set_ne (hCh.heap hk (fun hm => n3 (by simpa using hm))) n1 0 _) n2 0 _
    have hC2 : Chg S w0 ((w1.setCell ⟨bl, 0, none⟩ (.slice A' (l.length + 1) c')).setCell ⟨bt, 0, none⟩ (.slice none 0 0)) :=
      ((hC'.out.then hCh (fun x hx => .inr (h3'.lt x (by simpa using hx)).1)).setCell (.inr h5) _).setCell (.inr h6) _
    have hP : PSt ((w1.setCell ⟨bl, 0, none⟩ (.slice A' (l.length + 1) c')).setCell ⟨bt, 0, none⟩ (.slice none 0 0)) w0.heap.size bl bt (l ++ [⟨false, text⟩]) [] := by
      refine ⟨A', c', none, 0, ?_, ?_, ?_, World.ownsRow_nil _ _ _ _, h5, h6⟩
      · rw [List.length_append]; exact blk_set_ne (blk_set G1 0 _) (fun e => nb e) 0 _
      · exact blk_set G2' 0 _
      · rw [List.length_append, partsCells_snoc]; exact own_set (own_set hO' _ _ _ o1) _ _ _ o2
    replace hpk := Lib.hid hpk
    replace hC2 := Lib.hid hC2
    replace hP := Lib.hid hP
    clear h1 h2 h3' h4 h5 h6 m1 m2 G1 G2 G2' hO' hCh o1 o2 K hC' h3
    go_wp2
    go_end0
    exact ⟨rfl, hP.out, hC2.out, hpk.out⟩
end Go.Proofs.YtncoedoiakaedaaDoor
