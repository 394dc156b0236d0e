/- What the functions of the spans compute, told plainly. -/
import Derived.Test.YteedhlgdbankiaaSpecA
namespace Go.Proofs.Yteedhlgdbankiaa
open Go Go.Proofs.Yteedhlgdbankiaa.Pv

def spRight (s : TSpan) (m : Int) : Bool := decide (0 ≤ s.at_ ∧ 1 ≤ s.count ∧ s.at_ ≤ m ∧ s.count ≤ m - s.at_)
abbrev spOk (s : TSpan) : Bool := spRight s 2147483648
theorem spOk_iff (s : TSpan) : spOk s = true ↔ 0 ≤ s.at_ ∧ 1 ≤ s.count ∧ s.at_ ≤ 2147483648 ∧ s.count ≤ 2147483648 - s.at_ := by simp [spRight]
theorem spOk_not (s : TSpan) : spOk s = false ↔ ¬ (0 ≤ s.at_ ∧ 1 ≤ s.count ∧ s.at_ ≤ 2147483648 ∧ s.count ≤ 2147483648 - s.at_) := by
  rw [← spOk_iff]; simp
def meetOk (a b : TSpan) : Bool := spOk a && spOk b && decide (max a.at_ b.at_ < min (a.at_ + a.count) (b.at_ + b.count))
def meetV (a b : TSpan) : TSpan := if meetOk a b then ⟨max a.at_ b.at_, min (a.at_ + a.count) (b.at_ + b.count) - max a.at_ b.at_⟩ else ⟨0, 0⟩
def spIn (a b : TSpan) : Bool := meetOk a b && decide (meetV a b = a)
theorem spEq (a b : TSpan) : (decide (a.at_ = b.at_) && (decide (a.count = b.count) && true)) = decide (a = b) := by
  cases a; cases b; simp [TSpan.mk.injEq]
/-- The first that holds a cell. -/
def idxAt (l : List TSpan) (v : Int) : Option Nat := l.findIdx? fun x => decide (x.at_ ≤ v) && decide (v < x.at_ + x.count)
abbrev idxI : Option Nat → Int
  | some i => i
  | none => -1
theorem find_step {α : Type} {p : α → Bool} {l : List α} {i : Nat} {e : α} (h : ∀ j x, j < i → l[j]? = some x → p x = false) (he : l[i]? = some e) (hp : p e = true) : l.findIdx? p = some i := by
  obtain ⟨hi, rfl⟩ := List.getElem?_eq_some_iff.1 he
  rw [List.findIdx?_eq_some_iff_getElem]
  exact ⟨hi, hp, fun j hj => by have := h j l[j] hj (by simp [show j < l.length by omega]); simp [this]⟩
theorem find_none {α : Type} {p : α → Bool} {l : List α} (h : ∀ j x, j < l.length → l[j]? = some x → p x = false) : l.findIdx? p = none := by
  rw [List.findIdx?_eq_none_iff]
  intro x hx
  obtain ⟨j, hj⟩ := List.getElem?_of_mem hx
  exact h j x (List.getElem?_eq_some_iff.1 hj).1 hj
theorem contains_idx (s : List TSpan) : decide (0 ≤ idxI (s.findIdx? fun x => !(spOk x))) = decide (∃ x ∈ s, spOk x = false) := by
  apply decide_eq_decide.2
  cases h : s.findIdx? fun x => !(spOk x) with
  | none =>
    rw [List.findIdx?_eq_none_iff] at h
    constructor
    · intro hc; simp [idxI] at hc
    · rintro ⟨x, hx, hf⟩
      have := h x hx
      simp [hf] at this
  | some i =>
    rw [List.findIdx?_eq_some_iff_getElem] at h
    obtain ⟨hi, hp, _⟩ := h
    constructor
    · intro _; exact ⟨s[i], List.getElem_mem hi, by simpa using hp⟩
    · intro _; simp [idxI]
theorem idx_some {l : List TSpan} {v : Int} (h : ¬ idxI (idxAt l v) < 0) : ∃ i e, idxAt l v = some i ∧ idxI (idxAt l v) = ((i : Nat) : Int) ∧ l[i]? = some e ∧ e.at_ ≤ v ∧ v < e.at_ + e.count := by
  cases hx : idxAt l v with
  | none => rw [hx] at h; simp [idxI] at h
  | some i =>
    have h2 := hx
    unfold idxAt at h2
    rw [List.findIdx?_eq_some_iff_getElem] at h2
    obtain ⟨hi, hp, _⟩ := h2
    simp only [Bool.and_eq_true, decide_eq_true_eq] at hp
    exact ⟨i, l[i], rfl, rfl, by simp [hi], hp.1, hp.2⟩
theorem idx_none {l : List TSpan} {v : Int} (h : idxI (idxAt l v) < 0) : idxAt l v = none := by
  cases hx : idxAt l v with
  | none => rfl
  | some i => rw [hx] at h; simp [idxI] at h; omega
abbrev sp0 : TSpan := ⟨0, 0⟩
/-- A span in pieces, from a cell on. -/
def covGo (l : List TSpan) (e v : Int) : Option (List TSpan) :=
  if v < e then
    match idxAt l v with
    | none => none
    | some i => if h : v < min ((l.getD i sp0).at_ + (l.getD i sp0).count) e then (covGo l e (min ((l.getD i sp0).at_ + (l.getD i sp0).count) e)).map (⟨v, min ((l.getD i sp0).at_ + (l.getD i sp0).count) e - v⟩ :: ·) else none
  else some []
termination_by (e - v).toNat
decreasing_by omega
theorem covGo_end {l : List TSpan} {e v : Int} (h : ¬ v < e) : covGo l e v = some [] := by rw [covGo, if_neg h]
theorem covGo_none {l : List TSpan} {e v : Int} (h : v < e) (hi : idxAt l v = none) : covGo l e v = none := by rw [covGo, if_pos h, hi]
theorem covGo_step {l : List TSpan} {e v : Int} (h : v < e) {i : Nat} {x : TSpan} (hi : idxAt l v = some i) (hx : l[i]? = some x) (hv : v < x.at_ + x.count) :
    covGo l e v = (covGo l e (min (x.at_ + x.count) e)).map (⟨v, min (x.at_ + x.count) e - v⟩ :: ·) := by
  have hg : l.getD i sp0 = x := by simp [List.getD_eq_getElem?_getD, hx]
  rw [covGo, if_pos h, hi]
  simp only [hg]
  rw [dif_pos (by omega)]
def coverL (l : List TSpan) (s : TSpan) : Option (List TSpan) := if spOk s = true ∧ ∀ x ∈ l, spOk x = true then covGo l (s.at_ + s.count) s.at_ else none
def coverV (l : List TSpan) (s : TSpan) : List TSpan := (coverL l s).getD []
def coverOk (l : List TSpan) (s : TSpan) : Bool := (coverL l s).isSome
theorem map_snoc {o : Option (List TSpan)} {os : List TSpan} {p : TSpan} : (o.map (p :: ·)).map (os ++ ·) = o.map ((os ++ [p]) ++ ·) := by cases o <;> simp
/-- Who may begin: the way of the document. -/
theorem meet_at {x s : TSpan} (hx : spOk x = true) (hs : spOk s = true) : (meetOk x s && decide ((meetV x s).at_ = s.at_)) = (decide (x.at_ ≤ s.at_) && decide (s.at_ < x.at_ + x.count)) := by
  have h1 := (spOk_iff x).1 hx
  have h2 := (spOk_iff s).1 hs
  unfold meetV
  by_cases hm : meetOk x s = true
  · rw [if_pos hm, hm]
    simp only [meetOk, hx, hs, Bool.true_and, decide_eq_true_eq] at hm
    simp only [Bool.true_and]
    rw [← Bool.decide_and]
    apply decide_eq_decide.2
    omega
  · have hm' : meetOk x s = false := by simpa using hm
    rw [hm']
    simp only [meetOk, hx, hs, Bool.true_and, decide_eq_true_eq] at hm
    symm
    rw [Bool.false_and, ← Bool.decide_and]
    apply decide_eq_false
    omega
theorem meet_piece {x s : TSpan} (hx : spOk x = true) (hs : spOk s = true) (h : (meetOk x s && decide ((meetV x s).at_ = s.at_)) = true) : meetV x s = ⟨s.at_, min (x.at_ + x.count) (s.at_ + s.count) - s.at_⟩ := by
  simp only [Bool.and_eq_true, decide_eq_true_eq] at h
  have hm := h.1
  have ha := h.2
  unfold meetV at ha ⊢
  rw [if_pos hm] at ha ⊢
  simp only at ha
  rw [ha]
theorem spIn_iff (a b : TSpan) : spIn a b = true ↔ (spOk a = true ∧ spOk b = true ∧ b.at_ ≤ a.at_ ∧ a.at_ + a.count ≤ b.at_ + b.count) := by
  unfold spIn meetV
  cases ha : spOk a with
  | false => simp [meetOk, ha]
  | true =>
    cases hb : spOk b with
    | false => simp [meetOk, hb]
    | true =>
      have h1 := (spOk_iff a).1 ha
      have h2 := (spOk_iff b).1 hb
      obtain ⟨p, q⟩ := a
      obtain ⟨r, t⟩ := b
      simp only at h1 h2
      simp only [meetOk, ha, hb, Bool.true_and, Bool.and_eq_true, decide_eq_true_eq]
      by_cases hm : max p r < min (p + q) (r + t)
      · simp only [hm, if_true, TSpan.mk.injEq, true_and]
        omega
      · constructor
        · intro h; exact absurd h.1 hm
        · intro h
          obtain ⟨h3, h4⟩ : r ≤ p ∧ p + q ≤ r + t := by simpa using h
          exact absurd (by omega) hm
theorem meet_comm (a b : TSpan) : meetOk a b = meetOk b a ∧ meetV a b = meetV b a := by
  have h : meetOk a b = meetOk b a := by
    unfold meetOk
    rw [Bool.and_comm (spOk a), Int.max_comm, Int.min_comm]
  refine ⟨h, ?_⟩
  unfold meetV
  rw [h, Int.max_comm, Int.min_comm]
theorem meetOk_iff (a b : TSpan) : meetOk a b = true ↔ (spOk a = true ∧ spOk b = true ∧ max a.at_ b.at_ < min (a.at_ + a.count) (b.at_ + b.count)) := by
  simp only [meetOk, Bool.and_eq_true, decide_eq_true_eq, and_assoc]
theorem meetV_of {a b : TSpan} (h : meetOk a b = true) : (meetV a b).at_ = max a.at_ b.at_ ∧ (meetV a b).count = min (a.at_ + a.count) (b.at_ + b.count) - max a.at_ b.at_ ∧ spOk (meetV a b) = true := by
  have h1 := (meetOk_iff a b).1 h
  have ha := (spOk_iff a).1 h1.1
  have hb := (spOk_iff b).1 h1.2.1
  have e : meetV a b = ⟨max a.at_ b.at_, min (a.at_ + a.count) (b.at_ + b.count) - max a.at_ b.at_⟩ := by unfold meetV; rw [if_pos h]
  rw [e]
  exact ⟨rfl, rfl, (spOk_iff _).2 (by simp only; omega)⟩
theorem in_meet {a b : TSpan} (h : meetOk a b = true) : spIn (meetV a b) a = true ∧ spIn (meetV a b) b = true := by
  have h1 := (meetOk_iff a b).1 h
  have h2 := meetV_of h
  rw [spIn_iff, spIn_iff]
  exact ⟨⟨h2.2.2, h1.1, by omega, by omega⟩, ⟨h2.2.2, h1.2.1, by omega, by omega⟩⟩
theorem in_self {a : TSpan} (h : spOk a = true) : spIn a a = true := (spIn_iff a a).2 ⟨h, h, by omega, by omega⟩
theorem in_both (x y z : TSpan) : (spIn z x && spIn z y) = (meetOk x y && spIn z (meetV x y)) := by
  rw [Bool.eq_iff_iff]
  simp only [Bool.and_eq_true, spIn_iff]
  constructor
  · rintro ⟨⟨a1, a2, a3, a4⟩, b1, b2, b3, b4⟩
    have hz := (spOk_iff z).1 a1
    have hm : meetOk x y = true := (meetOk_iff x y).2 ⟨a2, b2, by omega⟩
    have h2 := meetV_of hm
    exact ⟨hm, a1, h2.2.2, by omega, by omega⟩
  · rintro ⟨hm, a1, a2, a3, a4⟩
    have h1 := (meetOk_iff x y).1 hm
    have h2 := meetV_of hm
    exact ⟨⟨a1, h1.1, by omega, by omega⟩, a1, h1.2.1, by omega, by omega⟩
theorem covGo_len (l : List TSpan) (e : Int) : ∀ (n : Nat) (v : Int) (os : List TSpan), (e - v).toNat ≤ n → covGo l e v = some os → (os.length : Int) ≤ (e - v).toNat
  | n, v, os, hn, h => by
    rw [covGo] at h
    split at h
    · rename_i hv
      split at h
      · cases h
      · rename_i i hi
        split at h
        · rename_i hlt
          simp only [Option.map_eq_some_iff] at h
          obtain ⟨t, h1, rfl⟩ := h
          match n, hn with
          | 0, hn => omega
          | n + 1, hn =>
            have := covGo_len l e n _ t (by omega) h1
            simp only [List.length_cons]
            omega
        · cases h
    · cases h; simp; omega
theorem coverV_length (l : List TSpan) (s : TSpan) : (coverV l s).length ≤ 2147483648 := by
  unfold coverV coverL
  split
  · rename_i h
    have h1 := (spOk_iff s).1 h.1
    cases hc : covGo l (s.at_ + s.count) s.at_ with
    | none => simp
    | some os =>
      have := covGo_len l _ _ _ os (Nat.le_refl _) hc
      simp only [Option.getD_some]
      omega
  · simp
theorem known_cover : coverL [⟨4, 4⟩, ⟨0, 5⟩] ⟨2, 5⟩ = some [⟨2, 3⟩, ⟨5, 2⟩] := by
  unfold coverL
  rw [if_pos (by decide), covGo_step (i := 1) (x := ⟨0, 5⟩) (by decide) (by decide) rfl (by decide), covGo_step (i := 0) (x := ⟨4, 4⟩) (by decide) (by decide) rfl (by decide), covGo_end (by decide)]
  rfl
theorem known_bad : coverL [] ⟨0, 1⟩ = none := by
  unfold coverL
  rw [if_pos (by decide), covGo_none (by decide) (by decide)]
end Go.Proofs.Yteedhlgdbankiaa
