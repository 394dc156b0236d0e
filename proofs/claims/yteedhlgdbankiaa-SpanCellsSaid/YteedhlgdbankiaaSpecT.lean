/- Spans cell by cell: what covers, what both have. -/
import Derived.Test.YteedhlgdbankiaaSpecS
namespace Go.Proofs.Yteedhlgdbankiaa
open Go Go.Proofs.Yteedhlgdbankiaa.Pv

/-- Cell by cell. -/
theorem cell_in {x y : TSpan} (hx : spOk x = true) (hy : spOk y = true) {i : Int} (h1 : x.at_ ≤ i) (h2 : i < x.at_ + x.count) :
    (meetOk x y = true → (y.at_ ≤ i ∧ i < y.at_ + y.count ↔ (meetV x y).at_ ≤ i ∧ i < (meetV x y).at_ + (meetV x y).count)) ∧ (meetOk x y = false → ¬ (y.at_ ≤ i ∧ i < y.at_ + y.count)) := by
  constructor
  · intro h
    have h3 := meetV_of h
    omega
  · intro h h4
    have h5 : meetOk x y = true := (meetOk_iff x y).2 ⟨hx, hy, by omega⟩
    rw [h] at h5; cases h5
theorem meetV_bounds (x y : TSpan) : 0 ≤ (meetV x y).at_ ∧ (meetV x y).at_ ≤ 2147483648 ∧ 0 ≤ (meetV x y).count ∧ (meetV x y).count ≤ 2147483648 := by
  by_cases h : meetOk x y = true
  · have h1 := (spOk_iff _).1 (meetV_of h).2.2
    omega
  · unfold meetV; rw [if_neg h]; decide
/-- How many cells both have, of those below i. -/
def bothN (x y : TSpan) (i : Int) : Int := max 0 (min i (y.at_ + y.count) - max x.at_ y.at_)
theorem both_0 {x y : TSpan} : bothN x y x.at_ = 0 := by unfold bothN; omega
theorem both_in {x y : TSpan} {i : Int} (h : x.at_ ≤ i) (h2 : y.at_ ≤ i ∧ i < y.at_ + y.count) : bothN x y (i + 1) = bothN x y i + 1 := by unfold bothN; omega
theorem both_out {x y : TSpan} {i : Int} (h : x.at_ ≤ i) (h2 : ¬ (y.at_ ≤ i ∧ i < y.at_ + y.count)) : bothN x y (i + 1) = bothN x y i := by unfold bothN; omega
theorem both_end {x y : TSpan} (hx : spOk x = true) (hy : spOk y = true) : decide (0 < bothN x y (x.at_ + x.count)) = meetOk x y ∧ (meetOk x y = true → (meetV x y).count = bothN x y (x.at_ + x.count)) := by
  constructor
  · rw [Bool.eq_iff_iff, decide_eq_true_eq, meetOk_iff]
    unfold bothN
    constructor
    · intro h; exact ⟨hx, hy, by omega⟩
    · rintro ⟨_, _, h⟩; omega
  · intro h
    have h1 := meetV_of h
    have h2 := (meetOk_iff x y).1 h
    unfold bothN
    omega
def allN (x y : TSpan) (i : Int) : Bool := decide (i ≤ x.at_ ∨ (y.at_ ≤ x.at_ ∧ i ≤ y.at_ + y.count))
theorem all_0 {x y : TSpan} : allN x y x.at_ = true := by unfold allN; exact decide_eq_true (Or.inl (by omega))
theorem all_in {x y : TSpan} {i : Int} (h : x.at_ ≤ i) (h2 : y.at_ ≤ i ∧ i < y.at_ + y.count) : allN x y (i + 1) = allN x y i := by
  unfold allN; apply decide_eq_decide.2; omega
theorem all_out {x y : TSpan} {i : Int} (h : x.at_ ≤ i) (h2 : ¬ (y.at_ ≤ i ∧ i < y.at_ + y.count)) : allN x y (i + 1) = false := by
  unfold allN; apply decide_eq_false; omega
theorem all_end {x y : TSpan} (hx : spOk x = true) (hy : spOk y = true) : spIn x y = allN x y (x.at_ + x.count) := by
  have h1 := (spOk_iff x).1 hx
  rw [Bool.eq_iff_iff, spIn_iff]
  unfold allN
  rw [decide_eq_true_eq]
  constructor
  · rintro ⟨_, _, h2, h3⟩; omega
  · intro h; exact ⟨hx, hy, by omega, by omega⟩
/-- The pieces' cells. -/
def sumC : List TSpan → Int
  | [] => 0
  | p :: t => p.count + sumC t
theorem sumC_snoc (l : List TSpan) (p : TSpan) : sumC (l ++ [p]) = sumC l + p.count := by
  induction l with
  | nil => simp [sumC]
  | cons a t ih => simp only [List.cons_append, sumC, ih]; omega
theorem idx_at {l : List TSpan} {v : Int} {i : Nat} (h : idxAt l v = some i) : ∃ e, l[i]? = some e ∧ e.at_ ≤ v ∧ v < e.at_ + e.count := by
  unfold idxAt at h
  rw [List.findIdx?_eq_some_iff_getElem] at h
  obtain ⟨hi, hp, _⟩ := h
  simp only [Bool.and_eq_true, decide_eq_true_eq] at hp
  exact ⟨l[i], by simp [hi], hp.1, hp.2⟩
theorem idx_any (l : List TSpan) (v : Int) : (idxAt l v).isSome = l.any fun f => decide (f.at_ ≤ v) && decide (v < f.at_ + f.count) := by
  unfold idxAt; rw [List.findIdx?_isSome]
theorem cov_pieces (l : List TSpan) (e : Int) (hl : ∀ f ∈ l, spOk f = true) (he : e ≤ 2147483648) : ∀ (n : Nat) (v : Int) (os : List TSpan), (e - v).toNat ≤ n → 0 ≤ v → covGo l e v = some os →
    (v ≤ e → v + sumC os = e) ∧ (∀ j p, os[j]? = some p → p.at_ = v + sumC (os.take j) ∧ 1 ≤ p.count ∧ (l.any fun f => spIn p f) = true) ∧ ∀ j, v ≤ j → j < e → (idxAt l j).isSome = true
  | n, v, os, hn, hv0, h => by
    by_cases hv : v < e
    · cases hi : idxAt l v with
      | none => rw [covGo_none hv hi] at h; cases h
      | some i =>
        obtain ⟨x, hx, hx1, hx2⟩ := idx_at hi
        have hxm := List.mem_of_getElem? hx
        have hxo := hl x hxm
        have hxk := (spOk_iff x).1 hxo
        rw [covGo_step hv hi hx hx2] at h
        simp only [Option.map_eq_some_iff] at h
        obtain ⟨t, h1, rfl⟩ := h
        match n, hn with
        | 0, hn => omega
        | n + 1, hn =>
          obtain ⟨m, hm⟩ : ∃ m, m = min (x.at_ + x.count) e := ⟨_, rfl⟩
          rw [← hm] at h1 ⊢
          have hm1 : v < m := by omega
          have hm2 : m ≤ e := by omega
          have hm3 : m ≤ x.at_ + x.count := by omega
          have ih := cov_pieces l e hl he n m t (by omega) (by omega) h1
          refine ⟨fun _ => ?_, ?_, ?_⟩
          · have := ih.1 hm2
            simp only [sumC]; omega
          · intro j p hj
            cases j with
            | zero =>
              simp only [List.getElem?_cons_zero, Option.some.injEq] at hj
              subst hj
              refine ⟨by simp [sumC], by simp only; omega, ?_⟩
              rw [List.any_eq_true]
              exact ⟨x, hxm, (spIn_iff _ _).2 ⟨(spOk_iff _).2 (by simp only; omega), hxo, hx1, by simp only; omega⟩⟩
            | succ j =>
              rw [List.getElem?_cons_succ] at hj
              have h3 := ih.2.1 j p hj
              refine ⟨?_, h3.2⟩
              rw [h3.1, List.take_succ_cons]; simp only [sumC]; omega
          · intro j h3 h4
            by_cases h5 : j < m
            · rw [idx_any, List.any_eq_true]
              exact ⟨x, hxm, by simp only [Bool.and_eq_true, decide_eq_true_eq]; omega⟩
            · exact ih.2.2 j (by omega) h4
    · rw [covGo_end hv] at h
      cases h
      refine ⟨fun _ => by simp [sumC]; omega, fun j p hj => by simp at hj, fun j h3 h4 => by omega⟩
theorem cov_fails (l : List TSpan) (e : Int) : ∀ (n : Nat) (v : Int), (e - v).toNat ≤ n → covGo l e v = none → ∃ j, v ≤ j ∧ j < e ∧ idxAt l j = none
  | n, v, hn, h => by
    by_cases hv : v < e
    · cases hi : idxAt l v with
      | none => exact ⟨v, by omega, hv, hi⟩
      | some i =>
        obtain ⟨x, hx, hx1, hx2⟩ := idx_at hi
        rw [covGo_step hv hi hx hx2, Option.map_eq_none_iff] at h
        match n, hn with
        | 0, hn => omega
        | n + 1, hn =>
          obtain ⟨j, h1, h2, h3⟩ := cov_fails l e n _ (by omega) h
          exact ⟨j, by omega, h2, h3⟩
    · rw [covGo_end hv] at h; cases h
theorem cover_goes {l : List TSpan} {s : TSpan} (hs : spOk s = true) (hl : ∀ f ∈ l, spOk f = true) : coverL l s = covGo l (s.at_ + s.count) s.at_ := by unfold coverL; rw [if_pos ⟨hs, hl⟩]
theorem cover_piece {l : List TSpan} {s p : TSpan} {j : Nat} (hs : spOk s = true) (hl : ∀ f ∈ l, spOk f = true) (h : (coverV l s)[j]? = some p) :
    p.at_ = s.at_ + sumC ((coverV l s).take j) ∧ 1 ≤ p.count ∧ (l.any fun f => spIn p f) = true ∧ s.at_ + sumC ((coverV l s).take j) + p.count = s.at_ + sumC ((coverV l s).take (j + 1)) := by
  have h1 := (spOk_iff s).1 hs
  have h2 : sumC ((coverV l s).take (j + 1)) = sumC ((coverV l s).take j) + p.count := by rw [List.take_add_one, h, Option.toList_some, sumC_snoc]
  unfold coverV at h h2 ⊢
  cases hc : coverL l s with
  | none => rw [hc] at h; simp at h
  | some os =>
    rw [hc] at h h2
    simp only [Option.getD_some] at h h2 ⊢
    rw [cover_goes hs hl] at hc
    have h3 := (cov_pieces l _ hl (by omega) _ _ os (Nat.le_refl _) h1.1 hc).2.1 j p h
    exact ⟨h3.1, h3.2.1, h3.2.2, by omega⟩
theorem cover_sum {l : List TSpan} {s : TSpan} (hs : spOk s = true) (hl : ∀ f ∈ l, spOk f = true) (h : coverOk l s = true) : sumC (coverV l s) = s.count := by
  have h1 := (spOk_iff s).1 hs
  unfold coverOk at h
  unfold coverV
  cases hc : coverL l s with
  | none => rw [hc] at h; cases h
  | some os =>
    rw [cover_goes hs hl] at hc
    have h3 := (cov_pieces l _ hl (by omega) _ _ os (Nat.le_refl _) h1.1 hc).1 (by omega)
    simp only [Option.getD_some]
    omega
theorem cover_whole {l : List TSpan} {s : TSpan} (hs : spOk s = true) (hl : ∀ f ∈ l, spOk f = true) {w : Bool} (hw : w = true ↔ ∀ j : Int, s.at_ ≤ j → j < s.at_ + s.count → (l.any fun f => decide (f.at_ ≤ j) && decide (j < f.at_ + f.count)) = true) : coverOk l s = w := by
  have h1 := (spOk_iff s).1 hs
  rw [Bool.eq_iff_iff, hw]
  unfold coverOk
  cases hc : coverL l s with
  | none =>
    rw [cover_goes hs hl] at hc
    obtain ⟨j, h2, h3, h4⟩ := cov_fails l _ _ _ (Nat.le_refl _) hc
    constructor
    · intro h; cases h
    · intro h
      have h5 := h j h2 h3
      rw [← idx_any, h4] at h5; cases h5
  | some os =>
    rw [cover_goes hs hl] at hc
    have h3 := (cov_pieces l _ hl (by omega) _ _ os (Nat.le_refl _) h1.1 hc).2.2
    constructor
    · intro _ j h4 h5
      rw [← idx_any]; exact h3 j h4 h5
    · intro _; rfl
theorem any_ok {l : List TSpan} {p : TSpan} (h : (l.any fun f => spIn p f) = true) : spOk p = true := by
  rw [List.any_eq_true] at h
  obtain ⟨f, _, h2⟩ := h
  exact ((spIn_iff _ _).1 h2).1
theorem any_next {α : Type} {l : List α} {i : Nat} {e : α} (p : α → Bool) (h : l[i]? = some e) : (l.take (i + 1)).any p = ((l.take i).any p || p e) := by
  rw [List.take_add_one, h]; simp
theorem whole_next {l : List TSpan} {a i : Int} {w : Bool} (hw : w = true ↔ ∀ j : Int, a ≤ j → j < i → (l.any fun f => decide (f.at_ ≤ j) && decide (j < f.at_ + f.count)) = true) (hi : a ≤ i) :
    (w && l.any fun f => decide (f.at_ ≤ i) && decide (i < f.at_ + f.count)) = true ↔ ∀ j : Int, a ≤ j → j < i + 1 → (l.any fun f => decide (f.at_ ≤ j) && decide (j < f.at_ + f.count)) = true := by
  rw [Bool.and_eq_true, hw]
  constructor
  · rintro ⟨h1, h2⟩ j h3 h4
    by_cases h5 : j < i
    · exact h1 j h3 h5
    · obtain rfl : j = i := by omega
      exact h2
  · intro h
    exact ⟨fun j h1 h2 => h j h1 (by omega), h i hi (by omega)⟩
end Go.Proofs.Yteedhlgdbankiaa
