/- Rules, and calls told of what they reach alone, are right. -/
import Derived.Test.YtnajikpdnccilaaGreatPvMG
set_option linter.unusedVariables false
set_option linter.unusedSimpArgs false
namespace Go.Proofs.YtnajikpdnccilaaGreat.Pv.M
open Go

/-! ### A part of memory -/
section
variable {ρ : Nat → Int} {P : Program}
theorem TB.use {g : Nat} {args : List MV} {m nx m' : Nat} {need H H' Hf : Heap} {r : MV} (h : TB ρ P g args m need r m' H') (hm : m ≤ nx) (ha : ∀ a ∈ args, hasV (ltB m) a = true)
    (hn : ∀ n o, look need n = some o → look H n = some o ∧ n < m ∧ hasO (ltB m) o = true) (hr : hasV (ltB m) r = true)
    (hf : ∀ n o, look Hf n = some o → (look H' n = some o ∧ n < m ∧ hasO (ltB m) o = true) ∨ (look H n = some o ∧ look need n = none)) : TB ρ P g args nx H r nx Hf := by
  refine ⟨h.1, fun w φ vals hok hsz hargs => ?_⟩
  have lessn : ∀ n, n < nx → ltB m n = true → φ n = φ n ∧ n < m := fun n _ hp => ⟨rfl, of_decide_eq_true hp⟩
  have hokS : Ok ρ φ m need w := ⟨fun n o hl => by
    obtain ⟨a, b, d⟩ := hn n o hl
    exact ⟨b, (hok.obj n o a).2.less lessn rfl d⟩, fun n q o o' h1 h2 => hok.dis n q o o' (hn n o h1).1 (hn q o' h2).1⟩
  refine (h.2 w φ vals hokS hsz fun i a v h1 h2 => (hargs i a v h1 h2).less lessn (ha a (List.mem_of_getElem? h1))).mono ?_
  rintro e w' ⟨φ', v, he, hok', hrv, hext, hle, hφ⟩
  have back : ∀ n, n < m' → ltB m n = true → φ n = φ' n ∧ n < nx := fun n _ hp => by
    have := of_decide_eq_true hp
    exact ⟨(hφ n this).symm, by omega⟩
  have same : ∀ n o, look H n = some o → look need n = none → ObjOk ρ φ nx w' n o := by
    intro n o h1 h2
    obtain ⟨a, b⟩ := hok.obj n o h1
    refine b.step (fun _ _ => rfl) (Nat.le_refl _) a fun hd => hext.blk _ (b.lt hd) ?_
    rintro ⟨q, o2, q1, q2, q3⟩
    refine hok.dis q n o2 o (hn q o2 q1).1 h1 (fun e => ?_) q2 hd q3
    subst e; rw [h2] at q1; cases q1
  have mixed : ∀ n q o o', look H' n = some o → n < m → look H q = some o' → look need q = none → o ≠ .dead → o' ≠ .dead → (φ n).blk ≠ (φ q).blk := by
    intro n q o o' h1 h2 h3 h4 d1 d2 e
    have hlt := (hok.obj q o' h3).2.lt d2
    have hO : Own φ' H' (φ q).blk := ⟨n, o, h1, d1, by rw [hφ n h2]; exact e⟩
    obtain ⟨x, ox, x1, x2, x3⟩ := hext.own _ hlt hO
    refine hok.dis x q ox o' (hn x ox x1).1 h3 (fun e => ?_) x2 d2 x3
    subst e; rw [h4] at x1; cases x1
  refine ⟨φ, v, he, ⟨fun n o hl => ?_, fun n q o o' h1 h2 hne d1 d2 => ?_⟩, hrv.less back hr, ⟨hext.os, hext.tape, hext.output, hext.size, fun b hb hO => hext.blk b hb ?_, ?_⟩, Nat.le_refl _, fun _ _ => rfl⟩
  · rcases hf n o hl with ⟨a, b, d⟩ | ⟨a, b⟩
    · exact ⟨by omega, (hok'.obj n o a).2.less back (hφ n b).symm d⟩
    · exact ⟨(hok.obj n o a).1, same n o a b⟩
  · rcases hf n o h1 with ⟨a1, b1, _⟩ | ⟨a1, b1⟩ <;> rcases hf q o' h2 with ⟨a2, b2, _⟩ | ⟨a2, b2⟩
    · rw [← hφ n b1, ← hφ q b2]; exact hok'.dis n q o o' a1 a2 hne d1 d2
    · exact mixed n q o o' a1 b1 a2 b2 d1 d2
    · exact fun e => mixed q n o' o a2 b2 a1 b1 d2 d1 e.symm
    · exact hok.dis n q o o' a1 a2 hne d1 d2
  · rintro ⟨q, o, q1, q2, q3⟩
    exact hO ⟨q, o, (hn q o q1).1, q2, q3⟩
  · rintro b hb ⟨n, o, n1, n2, n3⟩
    rcases hf n o n1 with ⟨a1, b1, _⟩ | ⟨a1, b1⟩
    · obtain ⟨x, ox, x1, x2, x3⟩ := hext.own b hb ⟨n, o, a1, n2, by rw [hφ n b1]; exact n3⟩
      exact ⟨x, ox, (hn x ox x1).1, x2, x3⟩
    · exact ⟨n, o, a1, n2, n3⟩
theorem TB.frame {g : Nat} {args : List MV} {nx nx' : Nat} {HS H HS' Hf : Heap} {r : MV} (h : TB ρ P g args nx HS r nx' HS') (hn : ∀ n o, look HS n = some o → look H n = some o)
    (hf : ∀ n o, look Hf n = some o → look HS' n = some o ∨ (look H n = some o ∧ look HS n = none)) : TB ρ P g args nx H r nx' Hf := by
  refine ⟨h.1, fun w φ vals hok hsz hargs => ?_⟩
  have hokS : Ok ρ φ nx HS w := ⟨fun n o hl => hok.obj n o (hn n o hl), fun n q o o' h1 h2 => hok.dis n q o o' (hn n o h1) (hn q o' h2)⟩
  refine (h.2 w φ vals hokS hsz hargs).mono ?_
  rintro e w' ⟨φ', v, he, hok', hrv, hext, hle, hφ⟩
  have same : ∀ n o, look H n = some o → look HS n = none → ObjOk ρ φ' nx' w' n o := by
    intro n o h1 h2
    obtain ⟨a, b⟩ := hok.obj n o h1
    refine b.step hφ hle a fun hd => hext.blk _ (b.lt hd) ?_
    rintro ⟨q, o2, q1, q2, q3⟩
    refine hok.dis q n o2 o (hn q o2 q1) h1 (fun e => ?_) q2 hd q3
    subst e; rw [h2] at q1; cases q1
  have mixed : ∀ n q o o', look HS' n = some o → look H q = some o' → look HS q = none → o ≠ .dead → o' ≠ .dead → (φ' n).blk ≠ (φ' q).blk := by
    intro n q o o' h1 h3 h4 d1 d2 e
    have hq := hok.obj q o' h3
    rw [hφ q hq.1] at e
    have hlt := hq.2.lt d2
    obtain ⟨x, ox, x1, x2, x3⟩ := hext.own _ hlt ⟨n, o, h1, d1, e⟩
    refine hok.dis x q ox o' (hn x ox x1) h3 (fun e => ?_) x2 d2 x3
    subst e; rw [h4] at x1; cases x1
  refine ⟨φ', v, he, ⟨fun n o hl => ?_, fun n q o o' h1 h2 hne d1 d2 => ?_⟩, hrv, ⟨hext.os, hext.tape, hext.output, hext.size, fun b hb hO => hext.blk b hb ?_, ?_⟩, hle, hφ⟩
  · rcases hf n o hl with a | ⟨a, b⟩
    · exact hok'.obj n o a
    · exact ⟨by have := (hok.obj n o a).1; omega, same n o a b⟩
  · rcases hf n o h1 with a1 | ⟨a1, b1⟩ <;> rcases hf q o' h2 with a2 | ⟨a2, b2⟩
    · exact hok'.dis n q o o' a1 a2 hne d1 d2
    · exact mixed n q o o' a1 a2 b2 d1 d2
    · exact fun e => mixed q n o' o a2 a1 b1 d2 d1 e.symm
    · rw [hφ n (hok.obj n o a1).1, hφ q (hok.obj q o' a2).1]; exact hok.dis n q o o' a1 a2 hne d1 d2
  · rintro ⟨q, o, q1, q2, q3⟩
    exact hO ⟨q, o, hn q o q1, q2, q3⟩
  · rintro b hb ⟨n, o, n1, n2, n3⟩
    rcases hf n o n1 with a1 | ⟨a1, b1⟩
    · obtain ⟨x, ox, x1, x2, x3⟩ := hext.own b hb ⟨n, o, a1, n2, n3⟩
      exact ⟨x, ox, hn x ox x1, x2, x3⟩
    · exact ⟨n, o, a1, n2, by rw [← hφ n (hok.obj n o a1).1]; exact n3⟩

/-! ### Calls told of what they reach -/
theorem mark_mem {H : Heap} : ∀ (f : Nat) (todo : List Nat) (acc : Heap) (p : Nat × MO), p ∈ mark H f todo acc → p ∈ acc ∨ look H p.1 = some p.2
  | 0, _, _, p, h => .inl h
  | f + 1, [], acc, p, h => .inl h
  | f + 1, n :: t, acc, p, h => by
    have h : p ∈ (Option.rec (motive := fun _ => Heap) (Option.rec (motive := fun _ => Heap) (mark H f t acc) (fun o => mark H f (namesB o t) ((n, o) :: acc)) (look H n)) (fun _ => mark H f t acc) (look acc n) : Heap) := h
    cases ha : look acc n with
    | some x => rw [ha] at h; exact mark_mem f t acc p h
    | none =>
      rw [ha] at h
      cases hh : look H n with
      | none => rw [hh] at h; exact mark_mem f t acc p h
      | some o =>
        rw [hh] at h
        rcases mark_mem f (namesB o t) ((n, o) :: acc) p h with h | h
        · rcases List.mem_cons.1 h with rfl | h
          · exact .inr hh
          · exact .inl h
        · exact .inr h
theorem keepK_inv {d : Heap} : ∀ (l acc : Heap) (k : Heap → Bool), keepK d l acc k = true → ∃ acc', k acc' = true ∧ ∀ p ∈ acc', p ∈ acc ∨ p ∈ l
  | [], acc, k, h => ⟨acc, h, fun p hp => .inl hp⟩
  | p :: l, acc, k, h => by
    have h : (Option.rec (motive := fun _ => Bool) (keepK d l acc k) (fun _ => keepK d l (p :: acc) k) (look d p.1) : Bool) = true := h
    cases hd : look d p.1 with
    | none =>
      rw [hd] at h
      obtain ⟨a, h1, h2⟩ := keepK_inv l acc k h
      exact ⟨a, h1, fun q hq => (h2 q hq).imp id (List.mem_cons_of_mem _)⟩
    | some o =>
      rw [hd] at h
      obtain ⟨a, h1, h2⟩ := keepK_inv l (p :: acc) k h
      refine ⟨a, h1, fun q hq => ?_⟩
      rcases h2 q hq with h | h
      · rcases List.mem_cons.1 h with rfl | h
        · exact .inr List.mem_cons_self
        · exact .inl h
      · exact .inr (List.mem_cons_of_mem _ h)
theorem layK_eq : ∀ (l acc : Heap) (k : Heap → Bool), layK l acc k = k (l.reverse ++ acc)
  | [], acc, k => rfl
  | p :: l, acc, k => by
    show layK l (p :: acc) k = _
    rw [layK_eq l]
    simp
theorem look_none_of {α : Type} {l : List (Nat × α)} {n : Nat} (h : ∀ p ∈ l, p.1 ≠ n) : look l n = none := by
  cases hq : look l n with
  | none => rfl
  | some x => exact absurd rfl (h _ (look_mem hq))
theorem mem_look {α : Type} : ∀ {l : List (Nat × α)} {n : Nat} {x : α}, (n, x) ∈ l → ∃ y, look l n = some y
  | [], _, _, h => by cases h
  | p :: l, n, x, h => by
    rw [look_cons]
    by_cases e : p.1 = n
    · exact ⟨p.2, by rw [if_pos e]⟩
    · rw [if_neg e]
      rcases List.mem_cons.1 h with rfl | h
      · exact absurd rfl e
      · exact mem_look h
theorem someB_inv {α : Type} {o : Option α} (h : someB o = true) : ∃ x, o = some x := by
  cases o with
  | none => cases (show false = true from h)
  | some x => exact ⟨x, rfl⟩
theorem gcC_ok {e : CallK} (he : CallOk ρ P e) : CallOk ρ P (gcC e) := by
  intro g args nx H k h
  have hmk : ∀ p, p ∈ mark H 5000 (namesL args []) [] → look H p.1 = some p.2 := fun p hp => (mark_mem _ _ _ p hp).resolve_left (by simp)
  generalize hHS : mark H 5000 (namesL args []) [] = HS at hmk
  have h : e g args nx HS (gcK nx HS H k) = true := by rw [← hHS]; exact h
  obtain ⟨r, nx', HS', h1, h2, dd, hd⟩ := he h
  obtain ⟨d, h3, h2⟩ := ob_inv (show ob (takeN (Nat.sub (len HS') (len HS)) HS') _ = true from h2)
  have hdd : d = dd := by
    obtain ⟨t1, t2⟩ := takeN_some h3
    rw [t1, hd, len_eq, len_eq]
    simp
  subst hdd
  obtain ⟨acc, h2, hacc⟩ := keepK_inv _ _ _ h2
  obtain ⟨h9, h2⟩ := oc_inv h2
  obtain ⟨h4, h2⟩ := oc_inv h2
  rw [layK_eq] at h2
  have hin : ∀ p ∈ acc, look HS' p.1 = some p.2 := fun p hp => by
    rcases hacc p hp with h | h
    · cases h
    · exact (mark_mem _ _ _ p h).resolve_left (by simp)
  have hsub : ∀ n o, look HS n = some o → look H n = some o := fun n o hn => hmk _ (look_mem hn)
  refine ⟨r, nx', acc.reverse ++ H, h1.frame hsub fun n o hn => ?_, h2, acc.reverse, rfl⟩
  rw [look_app] at hn
  cases hq : look acc.reverse n with
  | some x =>
    rw [hq] at hn; simp at hn; subst hn
    exact .inl (hin _ (List.mem_reverse.1 (look_mem hq)))
  | none =>
    rw [hq] at hn; simp at hn
    cases hs : look HS n with
    | none => exact .inr ⟨hn, rfl⟩
    | some y =>
      left
      have hy := hsub n y hs
      rw [hn] at hy; cases hy
      rw [hd, look_app]
      cases hz : look d n with
      | none => simpa using hs
      | some z =>
        exfalso
        have h5 := allB_inv h4 _ (look_mem hz)
        rcases ow_inv h5 with ⟨h6, _⟩ | ⟨_, h6⟩
        · have h7 := Nat.le_of_ble_eq_true h6
          have h8 := Nat.le_of_ble_eq_true (allB_inv h9 _ (look_mem hs))
          simp only at h7 h8
          omega
        · obtain ⟨_, h8⟩ := oc_inv h6
          obtain ⟨u, hu⟩ := someB_inv h8
          obtain ⟨v, hv⟩ := mem_look (List.mem_reverse.2 (look_mem hu))
          rw [hq] at hv; cases hv
theorem gcW_ok {e : CallK} (he : CallOk ρ P e) (gs : List Nat) : CallOk ρ P (gcW gs e) := by
  intro g args nx H k h
  induction gs with
  | nil => exact he h
  | cons f gs ih =>
    rcases ow_inv (show ow (Nat.beq f g) (gcC e g args nx H k) (gcW gs e g args nx H k) = true from h) with ⟨_, h⟩ | ⟨_, h⟩
    · exact gcC_ok he h
    · exact ih h
end
end Go.Proofs.YtnajikpdnccilaaGreat.Pv.M
