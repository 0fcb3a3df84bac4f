/- Contracts of what branches look with: exact, like, never, and their closures. Conditions: as they state. -/
import Derived.Test.YtojgdmpnbgikeaaLookSpec
import Derived.Test.YtojgdmpnbgikeaaKmp
import Derived.Test.YtojgdmpnbgikeaaMatch
set_option linter.unusedVariables false
set_option linter.unusedSimpArgs false
namespace Go.Proofs.Ytojgdmpnbgikeaa
open Go.RowKit PMatchFeeds YtojgdmpnbgikeaaW.PrintWords
namespace Mt
open Kmp Glob
def bs (l : List UInt8) : ByteArray := ⟨l.toArray⟩
def ns (l : List UInt8) : List Int := l.map fun c => (c.toNat : Int)
theorem ns_length (l : List UInt8) : (ns l).length = l.length := by simp [ns]
theorem ns_append (a b : List UInt8) : ns (a ++ b) = ns a ++ ns b := by simp [ns]
theorem ns_inj {a b : List UInt8} (h : ns a = ns b) : a = b := by
  unfold ns at h
  exact (List.map_inj_right (fun x y e => UInt8.toNat_inj.1 (by omega))).1 h
theorem ns_suffix {a b : List UInt8} : ns a <:+ ns b ↔ a <:+ b := by
  constructor
  · rintro h
    rw [List.suffix_iff_eq_drop] at h ⊢
    apply ns_inj
    rw [ns_length, ns_length] at h
    rw [h]; simp [ns]
  · rintro ⟨t, rfl⟩
    exact ⟨ns t, by simp [ns]⟩
theorem str_ns (l : List UInt8) : strOfNums (ns l) = bs l := by
  have hid : ((fun n : Int => UInt8.ofNat n.toNat) ∘ fun c : UInt8 => (c.toNat : Int)) = id := by funext c; simp
  simp [strOfNums, ns, bs, hid]
theorem bs_of {z : ByteArray} {l : List UInt8} (h : z.data.toList = l) : z = bs l := by subst h; rfl
theorem bs_size (l : List UInt8) : (bs l).size = l.length := rfl
/-- What a branch looks with, its blocks from `lo` on, below `hi`. -/
def LookAt (w : World) (lo hi most : Nat) (x : Br) (u : Value) (T : List UInt8) : Prop :=
  (x.kind = 0 ∧ x.pat.length ≤ most ∧ ∃ bp bq g a, u = .func (.func 42) #[] #[.pointer (some ⟨bp, 0, none⟩), .pointer (some ⟨bq, 0, none⟩)] ∧ w.heap[bp]? = some (.cells #[.string (bs x.pat)] 9 (0, 0)) ∧ w.heap[bq]? = some (.cells #[.pointer (some ⟨g, 0, none⟩)] 86 (0, 0)) ∧
    KS w lo hi g (ns x.pat) a ∧ IsBest (ns x.pat) (ns T) a ∧ lo ≤ bp ∧ bp < hi ∧ lo ≤ bq ∧ bq < hi ∧ bp ≠ g ∧ bq ≠ g)
  ∨ (x.kind = 1 ∧ ∃ bp bm ths, u = .func (.func 44) #[] #[.pointer (some ⟨bp, 0, none⟩), .pointer (some ⟨bm, 0, none⟩)] ∧ w.heap[bp]? = some (.cells #[.string (bs x.pat)] 9 (0, 0)) ∧ w.heap[bm]? = some (.cells #[.int .i64 most] 3 (0, 0)) ∧
    parse x.pat = some ths ∧ x.pat.length ≤ 1024 ∧ lo ≤ bp ∧ bp < hi ∧ lo ≤ bm ∧ bm < hi)
  ∨ (((x.kind = 0 ∧ most < x.pat.length) ∨ (x.kind ≠ 0 ∧ x.kind ≠ 1)) ∧ u = .func (.func 32) #[] #[])
theorem LookAt.chg {S : List Nat} {w w' : World} {lo hi most : Nat} {x : Br} {u : Value} {T : List UInt8} (h : LookAt w lo hi most x u T) (hc : Chg S w w') (hS : ∀ k ∈ S, k < lo ∨ hi ≤ k) : LookAt w' lo hi most x u T := by
  rcases h with ⟨h1, h2, bp, bq, g, a, rfl, h3, h4, h5, h6, h7, h8, h9, h10, h11, h12⟩ | ⟨h1, bp, bm, ths, rfl, h3, h4, h5, h6, h7, h8, h9, h10⟩ | h
  · exact .inl ⟨h1, h2, bp, bq, g, a, rfl, hc.heap h3 (fun hm => by have := hS _ hm; omega), hc.heap h4 (fun hm => by have := hS _ hm; omega), h5.chg hc hS, h6, h7, h8, h9, h10, h11, h12⟩
  · exact .inr (.inl ⟨h1, bp, bm, ths, rfl, hc.heap h3 (fun hm => by have := hS _ hm; omega), hc.heap h4 (fun hm => by have := hS _ hm; omega), h5, h6, h7, h8, h9, h10⟩)
  · exact .inr (.inr h)
theorem KS.shape {w : World} {lo hi g : Nat} {p : List Int} {a : Nat} (h : KS w lo hi g p a) : lo ≤ g ∧ g < hi := by
  obtain ⟨A, c, B, c2, back, h1, h2, h3, h4, h5, h6, h7, h8⟩ := h
  exact ⟨h6, h7⟩
theorem KS.hi {w : World} {lo hi hi' g : Nat} {p : List Int} {a : Nat} (h : KS w lo hi g p a) (hh : hi ≤ hi') {lo' : Nat} (hl : lo' ≤ lo) : KS w lo' hi' g p a := by
  obtain ⟨A, c, B, c2, back, h1, h2, h3, h4, h5, h6, h7, h8⟩ := h
  exact ⟨A, c, B, c2, back, h1, h2, h3, fun q hq => by have := h4 q hq; omega, fun q hq => by have := h5 q hq; omega, by omega, by omega, h8⟩
/-- What the closure of an exact branch tells. -/
def LkEnd (w : World) (lo hi most : Nat) (x : Br) (u : Value) (T : List UInt8) (e : Ending) (w' : World) : Prop :=
  ∃ (i : Int) (ok : Bool), e = .returned (.tuple #[.int .i64 i, .bool ok]) ∧ LookAt w' lo hi most x u T ∧ (∃ S, Chg S w w' ∧ ∀ k ∈ S, lo ≤ k ∧ k < hi) ∧ ((ok = true ∧ ∃ f : Nat, i = f ∧ fromOf most x T = some f) ∨ (ok = false ∧ fromOf most x T = none))
set_option maxRecDepth 100000 in
set_option maxHeartbeats 4000000 in
theorem exact1_any (w : World) (lo hi most : Nat) (x : Br) (T : List UInt8) (c : UInt8) (A : Option Addr) (n cc bp bq g a : Nat) (h1 : x.kind = 0) (h2 : x.pat.length ≤ most) (h3 : w.heap[bp]? = some (.cells #[.string (bs x.pat)] 9 (0, 0))) (h4 : w.heap[bq]? = some (.cells #[.pointer (some ⟨g, 0, none⟩)] 86 (0, 0)))
    (h5 : KS w lo hi g (ns x.pat) a) (h6 : IsBest (ns x.pat) (ns T) a) (h7 : lo ≤ bp ∧ bp < hi) (h8 : lo ≤ bq ∧ bq < hi) (h9 : bp ≠ g) (h10 : bq ≠ g) (hT : T.length < 900000) (hm : most ≤ 1048576) :
    Calls Try.prog 42 #[.int .u8 c.toNat, .int .i64 ((T.length : Int) + 1), .slice A n cc, .pointer (some ⟨bp, 0, none⟩), .pointer (some ⟨bq, 0, none⟩)] w
      (LkEnd w lo hi most x (.func (.func 42) #[] #[.pointer (some ⟨bp, 0, none⟩), .pointer (some ⟨bq, 0, none⟩)]) (T ++ [c])) := by
  have hg := KS.shape h5
  have k3 : ∀ w', Chg [g] w w' → w'.cell? ⟨bp, 0, none⟩ = some (.string (bs x.pat)) := fun w' hc => by
    have := hc.heap h3 (by simpa using h9)
    simp [World.cell?, this]
  have k4 : ∀ w', Chg [g] w w' → w'.cell? ⟨bq, 0, none⟩ = some (.pointer (some ⟨g, 0, none⟩)) := fun w' hc => by
    have := hc.heap h4 (by simpa using h10)
    simp [World.cell?, this]
  obtain ⟨r, hr, -⟩ := feed_any w lo hi g (ns x.pat) (ns T) a c.toNat h5 h6
  have hcall : ∀ w', Chg [] w w' → Calls Try.prog 43 #[.pointer (some ⟨g, 0, none⟩), .int .u8 c.toNat] w' fun e w'' => e = .returned (.bool (decide (r = (ns x.pat).length))) ∧ KS w'' lo hi g (ns x.pat) r ∧ Chg [g] w' w'' := fun w' hc => by
    obtain ⟨r', hr', hcl⟩ := feed_any w' lo hi g (ns x.pat) (ns T) a c.toNat (h5.chg hc (by simp)) h6
    obtain rfl := hr.unique hr'
    exact hcl
  have hr2 : IsBest (ns x.pat) (ns (T ++ [c])) r := by rw [ns_append]; exact hr
  have hok : decide (r = (ns x.pat).length) = decide (x.pat <:+ T ++ [c]) := by
    rw [decide_eq_decide, hr2.full, ns_suffix]
  have hfr := from_exact (T := T ++ [c]) h1 h2
  rw [hok] at hcall
  obtain ⟨ok, hokd⟩ : ∃ ok, decide (x.pat <:+ T ++ [c]) = ok := ⟨_, rfl⟩
  rw [hokd] at hcall
  replace hcall := Lib.hid hcall
  have hz : (bs x.pat).size = x.pat.length := rfl
  have e1 : IntKind.i64.wrap (((T.length : Int) + 1) - (x.pat.length : Int)) = ((T.length : Int) + 1) - (x.pat.length : Int) := IntWalk.i64_in _ (by omega)
  have hfin : ∀ (w' : World), KS w' lo hi g (ns x.pat) r → Chg [g] w w' → LkEnd w lo hi most x (.func (.func 42) #[] #[.pointer (some ⟨bp, 0, none⟩), .pointer (some ⟨bq, 0, none⟩)]) (T ++ [c]) (.returned (.tuple #[.int .i64 (((T.length : Int) + 1) - (x.pat.length : Int)), .bool ok])) w' := fun w' hk hc => by
    refine ⟨_, ok, rfl, .inl ⟨h1, h2, bp, bq, g, r, rfl, hc.heap h3 (by simpa using h9), hc.heap h4 (by simpa using h10), hk, hr2, h7.1, h7.2, h8.1, h8.2, h9, h10⟩, ⟨[g], hc, by simp; exact hg⟩, ?_⟩
    cases ok with
    | true =>
      have hs : x.pat <:+ T ++ [c] := of_decide_eq_true hokd
      have hl := hs.length_le
      rw [if_pos hs] at hfr
      simp only [List.length_append, List.length_cons, List.length_nil] at hl hfr
      exact .inl ⟨rfl, _, by omega, hfr⟩
    | false =>
      have hs : ¬ x.pat <:+ T ++ [c] := of_decide_eq_false hokd
      rw [if_neg hs] at hfr
      exact .inr ⟨rfl, hfr⟩
  replace hfin := Lib.hid hfin
  have q3 := k3 w (Chg.refl _ _)
  have q4 := k4 w (Chg.refl _ _)
  replace k3 := Lib.hid k3
  replace k4 := Lib.hid k4
  clear h1 h2 h3 h4 h5 h6 h7 h8 hr hr2 hok hokd hfr
  go_enter Try.func42, Try.ntmps42
  go_wp2_with fail
  refine wp_region_any (by kernel_rfl) ?_
  (try (change wpAny _ _ _ _ _ _ _ (World.drew _)))
  refine wpAny_take (i := 0) (v := ?_) rfl (by kernel_rfl) (by kernel_rfl) (by kernel_rfl) (fun _ _ _ h => h) (Or.inl ⟨by kernel_rfl, ?_⟩) ?_
  rotate_left
  · (intro w; go_simp; try with_reducible rfl)
  change wpAny _ _ _ _ _ _ (Act.put _ (some 10) _) _
  (try simp only [Act.put, List.setIfInBounds_toArray, List.set_cons_zero, List.set_cons_succ])
  refine wpAny_take (i := 5) (v := ?_) rfl (by kernel_rfl) (by kernel_rfl) (by kernel_rfl) (fun _ _ _ h => h) (Or.inl ⟨by kernel_rfl, ?_⟩) ?_
  rotate_left
  · (intro w; go_simp; try with_reducible rfl)
  change wpAny _ _ _ _ _ _ (Act.put _ (some 15) _) _
  (try simp only [Act.put, List.setIfInBounds_toArray, List.set_cons_zero, List.set_cons_succ])
  refine wpAny_ready (rs := [1, 4]) (by kernel_rfl) (by simp) ?_
  refine AllReady.cons rfl (fun K hK => ?_) ?_
  · go_simp
    (try (refine hK _ _ ?_; clear hK K))
    (try simp only [Act.put, List.setIfInBounds_toArray, List.set_cons_zero, List.set_cons_succ])
    refine wpAny_take (i := 2) (v := ?_) rfl (by kernel_rfl) (by kernel_rfl) (by kernel_rfl) (fun _ _ _ h => h) (Or.inl ⟨by kernel_rfl, ?_⟩) ?_
    rotate_left
    · (intro w; go_simp; try with_reducible rfl)
    change wpAny _ _ _ _ _ _ (Act.put _ (some 12) _) _
    (try simp only [Act.put, List.setIfInBounds_toArray, List.set_cons_zero, List.set_cons_succ])
    refine wpAny_take (i := 3) (v := ?_) rfl (by kernel_rfl) (by kernel_rfl) (by kernel_rfl) (fun _ _ _ h => h) (Or.inl ⟨by kernel_rfl, ?_⟩) ?_
    rotate_left
    · (intro w; go_simp; try with_reducible rfl)
    change wpAny _ _ _ _ _ _ (Act.put _ (some 13) _) _
    (try simp only [Act.put, List.setIfInBounds_toArray, List.set_cons_zero, List.set_cons_succ])
    refine wpAny_ready (rs := [4]) (by kernel_rfl) (by simp) ?_
    refine AllReady.cons rfl (fun K hK => ?_) ?_
    · go_simp
      (try (refine hK _ _ ?_; clear hK K))
      (try simp only [Act.put, List.setIfInBounds_toArray, List.set_cons_zero, List.set_cons_succ])
      refine wpAny_ready (rs := [6]) (by kernel_rfl) (by simp) ?_
      refine AllReady.cons rfl (fun K hK => ?_) ?_
      · go_simp
        go_wp2_with (first
            | (refine (hcall.out _ (by exact (Chg.refl _ _).drew)).mono ?_; rintro e w3 ⟨rfl, hK, hC⟩; have q3 := k3.out w3 ((Chg.refl [g] w).drew.trans hC); have q4 := k4.out w3 ((Chg.refl [g] w).drew.trans hC); replace hK := Lib.hid hK; replace hC := Lib.hid hC))
        (try (refine hK _ _ ?_; clear hK K))
        (try simp only [Act.put, List.setIfInBounds_toArray, List.set_cons_zero, List.set_cons_succ])
        refine wpAny_take (i := 7) (v := ?_) rfl (by kernel_rfl) (by kernel_rfl) (by kernel_rfl) (fun _ _ _ h => h) (Or.inl ⟨by kernel_rfl, ?_⟩) ?_
        rotate_left
        · (intro w; go_simp; try with_reducible rfl)
        change wpAny _ _ _ _ _ _ (Act.put _ (some 8) _) _
        (try simp only [Act.put, List.setIfInBounds_toArray, List.set_cons_zero, List.set_cons_succ])
        refine wpAny_take (i := 8) (v := ?_) rfl (by kernel_rfl) (by kernel_rfl) (by kernel_rfl) (fun _ _ _ h => h) (Or.inl ⟨by kernel_rfl, ?_⟩) ?_
        rotate_left
        · (intro w; go_simp; try with_reducible rfl)
        change wpAny _ _ _ _ _ _ (Act.put _ (some 9) _) _
        (try simp only [Act.put, List.setIfInBounds_toArray, List.set_cons_zero, List.set_cons_succ])
        refine wpAny_done (by kernel_rfl) ?_ _
        (try simp only [Act.put, List.setIfInBounds_toArray, List.set_cons_zero, List.set_cons_succ])
        go_wp2_with fail
        go_ret2
        exact hfin.out _ hK.out ((Chg.refl [g] w).drew.trans hC.out)
      exact AllReady.nil
    exact AllReady.nil
  refine AllReady.cons rfl (fun K hK => ?_) ?_
  · go_simp
    (try (refine hK _ _ ?_; clear hK K))
    (try simp only [Act.put, List.setIfInBounds_toArray, List.set_cons_zero, List.set_cons_succ])
    refine wpAny_ready (rs := [1, 6]) (by kernel_rfl) (by simp) ?_
    refine AllReady.cons rfl (fun K hK => ?_) ?_
    · go_simp
      (try (refine hK _ _ ?_; clear hK K))
      (try simp only [Act.put, List.setIfInBounds_toArray, List.set_cons_zero, List.set_cons_succ])
      refine wpAny_take (i := 2) (v := ?_) rfl (by kernel_rfl) (by kernel_rfl) (by kernel_rfl) (fun _ _ _ h => h) (Or.inl ⟨by kernel_rfl, ?_⟩) ?_
      rotate_left
      · (intro w; go_simp; try with_reducible rfl)
      change wpAny _ _ _ _ _ _ (Act.put _ (some 12) _) _
      (try simp only [Act.put, List.setIfInBounds_toArray, List.set_cons_zero, List.set_cons_succ])
      refine wpAny_take (i := 3) (v := ?_) rfl (by kernel_rfl) (by kernel_rfl) (by kernel_rfl) (fun _ _ _ h => h) (Or.inl ⟨by kernel_rfl, ?_⟩) ?_
      rotate_left
      · (intro w; go_simp; try with_reducible rfl)
      change wpAny _ _ _ _ _ _ (Act.put _ (some 13) _) _
      (try simp only [Act.put, List.setIfInBounds_toArray, List.set_cons_zero, List.set_cons_succ])
      refine wpAny_ready (rs := [6]) (by kernel_rfl) (by simp) ?_
      refine AllReady.cons rfl (fun K hK => ?_) ?_
      · go_simp
        go_wp2_with (first
            | (refine (hcall.out _ (by exact (Chg.refl _ _).drew)).mono ?_; rintro e w3 ⟨rfl, hK, hC⟩; have q3 := k3.out w3 ((Chg.refl [g] w).drew.trans hC); have q4 := k4.out w3 ((Chg.refl [g] w).drew.trans hC); replace hK := Lib.hid hK; replace hC := Lib.hid hC))
        (try (refine hK _ _ ?_; clear hK K))
        (try simp only [Act.put, List.setIfInBounds_toArray, List.set_cons_zero, List.set_cons_succ])
        refine wpAny_take (i := 7) (v := ?_) rfl (by kernel_rfl) (by kernel_rfl) (by kernel_rfl) (fun _ _ _ h => h) (Or.inl ⟨by kernel_rfl, ?_⟩) ?_
        rotate_left
        · (intro w; go_simp; try with_reducible rfl)
        change wpAny _ _ _ _ _ _ (Act.put _ (some 8) _) _
        (try simp only [Act.put, List.setIfInBounds_toArray, List.set_cons_zero, List.set_cons_succ])
        refine wpAny_take (i := 8) (v := ?_) rfl (by kernel_rfl) (by kernel_rfl) (by kernel_rfl) (fun _ _ _ h => h) (Or.inl ⟨by kernel_rfl, ?_⟩) ?_
        rotate_left
        · (intro w; go_simp; try with_reducible rfl)
        change wpAny _ _ _ _ _ _ (Act.put _ (some 9) _) _
        (try simp only [Act.put, List.setIfInBounds_toArray, List.set_cons_zero, List.set_cons_succ])
        refine wpAny_done (by kernel_rfl) ?_ _
        (try simp only [Act.put, List.setIfInBounds_toArray, List.set_cons_zero, List.set_cons_succ])
        go_wp2_with fail
        go_ret2
        exact hfin.out _ hK.out ((Chg.refl [g] w).drew.trans hC.out)
      exact AllReady.nil
    refine AllReady.cons rfl (fun K hK => ?_) ?_
    · go_simp
      go_wp2_with (first
          | (refine (hcall.out _ (by exact (Chg.refl _ _).drew)).mono ?_; rintro e w3 ⟨rfl, hK, hC⟩; have q3 := k3.out w3 ((Chg.refl [g] w).drew.trans hC); have q4 := k4.out w3 ((Chg.refl [g] w).drew.trans hC); replace hK := Lib.hid hK; replace hC := Lib.hid hC))
      (try (refine hK _ _ ?_; clear hK K))
      (try simp only [Act.put, List.setIfInBounds_toArray, List.set_cons_zero, List.set_cons_succ])
      refine wpAny_ready (rs := [1]) (by kernel_rfl) (by simp) ?_
      refine AllReady.cons rfl (fun K hK => ?_) ?_
      · go_simp
        (try (refine hK _ _ ?_; clear hK K))
        (try simp only [Act.put, List.setIfInBounds_toArray, List.set_cons_zero, List.set_cons_succ])
        refine wpAny_take (i := 2) (v := ?_) rfl (by kernel_rfl) (by kernel_rfl) (by kernel_rfl) (fun _ _ _ h => h) (Or.inl ⟨by kernel_rfl, ?_⟩) ?_
        rotate_left
        · (intro w; go_simp; try with_reducible rfl)
        change wpAny _ _ _ _ _ _ (Act.put _ (some 12) _) _
        (try simp only [Act.put, List.setIfInBounds_toArray, List.set_cons_zero, List.set_cons_succ])
        refine wpAny_take (i := 3) (v := ?_) rfl (by kernel_rfl) (by kernel_rfl) (by kernel_rfl) (fun _ _ _ h => h) (Or.inl ⟨by kernel_rfl, ?_⟩) ?_
        rotate_left
        · (intro w; go_simp; try with_reducible rfl)
        change wpAny _ _ _ _ _ _ (Act.put _ (some 13) _) _
        (try simp only [Act.put, List.setIfInBounds_toArray, List.set_cons_zero, List.set_cons_succ])
        refine wpAny_take (i := 7) (v := ?_) rfl (by kernel_rfl) (by kernel_rfl) (by kernel_rfl) (fun _ _ _ h => h) (Or.inl ⟨by kernel_rfl, ?_⟩) ?_
        rotate_left
        · (intro w; go_simp; try with_reducible rfl)
        change wpAny _ _ _ _ _ _ (Act.put _ (some 8) _) _
        (try simp only [Act.put, List.setIfInBounds_toArray, List.set_cons_zero, List.set_cons_succ])
        refine wpAny_take (i := 8) (v := ?_) rfl (by kernel_rfl) (by kernel_rfl) (by kernel_rfl) (fun _ _ _ h => h) (Or.inl ⟨by kernel_rfl, ?_⟩) ?_
        rotate_left
        · (intro w; go_simp; try with_reducible rfl)
        change wpAny _ _ _ _ _ _ (Act.put _ (some 9) _) _
        (try simp only [Act.put, List.setIfInBounds_toArray, List.set_cons_zero, List.set_cons_succ])
        refine wpAny_done (by kernel_rfl) ?_ _
        (try simp only [Act.put, List.setIfInBounds_toArray, List.set_cons_zero, List.set_cons_succ])
        go_wp2_with fail
        go_ret2
        exact hfin.out _ hK.out ((Chg.refl [g] w).drew.trans hC.out)
      exact AllReady.nil
    exact AllReady.nil
  exact AllReady.nil
set_option maxRecDepth 100000 in
set_option maxHeartbeats 4000000 in
theorem like1_any (w : World) (lo hi most : Nat) (x : Br) (T : List UInt8) (c : UInt8) (A : Option Addr) (cc bp bm : Nat) (ths : List Th) (h1 : x.kind = 1) (h3 : w.heap[bp]? = some (.cells #[.string (bs x.pat)] 9 (0, 0))) (h4 : w.heap[bm]? = some (.cells #[.int .i64 most] 3 (0, 0)))
    (h5 : parse x.pat = some ths) (h6 : x.pat.length ≤ 1024) (h7 : lo ≤ bp ∧ bp < hi) (h8 : lo ≤ bm ∧ bm < hi) (hT : T.length < 900000) (hm : most ≤ 1048576) (N : Nat) (hN : N = (lastB most (T ++ [c])).length)
    (hS : Sl w 1 (.slice A N cc) N (cellsOf .u8 (ns (lastB most (T ++ [c]))))) :
    Calls Try.prog 44 #[.int .u8 c.toNat, .int .i64 ((T.length : Int) + 1), .slice A N cc, .pointer (some ⟨bp, 0, none⟩), .pointer (some ⟨bm, 0, none⟩)] w
      (LkEnd w lo hi most x (.func (.func 44) #[] #[.pointer (some ⟨bp, 0, none⟩), .pointer (some ⟨bm, 0, none⟩)]) (T ++ [c])) := by
  have k3 : w.cell? ⟨bp, 0, none⟩ = some (.string (bs x.pat)) := by simp [World.cell?, h3]
  have k4 : w.cell? ⟨bm, 0, none⟩ = some (.int .i64 most) := by simp [World.cell?, h4]
  have hv := sl_string (P := Try.prog) hS 22 5 9 Try.underlying22 Try.underlying5 Try.underlying9
  rw [str_ns] at hv
  have hll := lastB_length most (T ++ [c])
  simp only [List.length_append, List.length_cons, List.length_nil, Nat.zero_add] at hll
  have hsp := fun W => span_any (bs x.pat) (bs (lastB most (T ++ [c]))) h6 (by rw [bs_size]; omega) most (by omega) (by omega) W ths h5
  have hlk : ∀ w' : World, Chg [] w w' → LookAt w' lo hi most x (.func (.func 44) #[] #[.pointer (some ⟨bp, 0, none⟩), .pointer (some ⟨bm, 0, none⟩)]) (T ++ [c]) := fun w' hc =>
    .inr (.inl ⟨h1, bp, bm, ths, rfl, hc.heap h3 (by simp), hc.heap h4 (by simp), h5, h6, h7.1, h7.2, h8.1, h8.2⟩)
  have hs1 := fun i => from_glob_some (most := most) (T := T ++ [c]) (i := i) h1 h5
  have hs0 := from_glob_none (most := most) (T := T ++ [c]) h1 h5
  simp only [List.length_append, List.length_cons, List.length_nil, Nat.zero_add] at hs1
  rw [← hN] at hs1 hll
  replace hN := Lib.hid hN
  have hNl : N ≤ T.length + 1 := by omega
  clear hll
  replace hlk := Lib.hid hlk
  replace hsp := Lib.hid hsp
  replace hs1 := Lib.hid hs1
  replace hs0 := Lib.hid hs0
  clear h3 h4 hS h1 h5 h6 h7 h8
  go_enter Try.func44, Try.ntmps44
  go_wp2_with fail
  refine (hsp.out _).mono ?_
  rintro e w2 ⟨i, ok, rfl, hSp, hC⟩
  have ha : (bs (lastB most (T ++ [c]))).size - (most : Int).toNat = 0 := by rw [bs_size, lastB_length]; omega
  rw [ha] at hSp
  have hbl : (bs (lastB most (T ++ [c]))).data.toList = lastB most (T ++ [c]) := rfl
  rw [hbl] at hSp
  replace hC := Lib.hid hC
  clear ha hbl hsp hv
  rcases hSp with ⟨rfl, k, rfl, -, hk, hL, hn⟩ | ⟨rfl, rfl, hn⟩
  · rw [← hN.out] at hk
    have hf := Lib.hid (hs1.out k hk hL (fun j hj => hn j (Nat.zero_le _) hj))
    have e1 : (T.length : Int) + 1 - (N : Int) + (k : Int) = ((T.length + 1 - N + k : Nat) : Int) := by omega
    clear hL hn hs1 hs0
    go_wp2_with fail
    go_ret2
    exact ⟨_, true, rfl, hlk.out _ hC.out, ⟨[], hC.out, by simp⟩, by first | exact .inl ⟨rfl, _, e1, hf.out⟩ | exact .inl ⟨rfl, _, by omega, hf.out⟩⟩
  · have hf := Lib.hid (hs0.out (fun j hj => hn j (Nat.zero_le _) hj))
    clear hn hs1 hs0
    go_wp2_with fail
    go_ret2
    exact ⟨_, false, rfl, hlk.out _ hC.out, ⟨[], hC.out, by simp⟩, .inr ⟨rfl, hf.out⟩⟩
theorem never_any (w : World) (lo hi most : Nat) (x : Br) (T : List UInt8) (c : UInt8) (i : Int) (A : Option Addr) (n cc : Nat) (h : (x.kind = 0 ∧ most < x.pat.length) ∨ (x.kind ≠ 0 ∧ x.kind ≠ 1)) :
    Calls Try.prog 32 #[.int .u8 c.toNat, .int .i64 i, .slice A n cc] w (LkEnd w lo hi most x (.func (.func 32) #[] #[]) (T ++ [c])) := by
  have hf : fromOf most x (T ++ [c]) = none := by
    rcases h with ⟨h1, h2⟩ | ⟨h1, h2⟩
    · exact from_long h1 h2
    · exact from_never h1 h2
  have hl := Lib.hid h
  clear h
  replace hf := Lib.hid hf
  go_enter Try.func32, Try.ntmps32
  go_wp2_with fail
  go_ret2
  exact ⟨0, false, rfl, .inr (.inr ⟨hl.out, rfl⟩), ⟨[], Chg.refl _ _, by simp⟩, .inr ⟨rfl, hf.out⟩⟩
end Mt
end Go.Proofs.Ytojgdmpnbgikeaa
