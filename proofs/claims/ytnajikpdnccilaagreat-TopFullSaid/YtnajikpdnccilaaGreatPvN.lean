/- Names anew; what a call does. -/
import Derived.Test.YtnajikpdnccilaaGreatPvM
set_option linter.unusedVariables false
set_option linter.unusedSimpArgs false
namespace Go.Proofs.YtnajikpdnccilaaGreat.Pv
open Go

def ren1 (τ : Nat → Nat) : PV → PV
  | .ptr n off => .ptr (τ n) off
  | .ref n lo hi => .ref (τ n) lo hi
  | .ep n i off => .ep (τ n) i off
  | x => x
def ren2 (τ : Nat → Nat) : PV → PV
  | .agg cs => .agg (cs.map (ren1 τ))
  | .clo fn cs => .clo fn (cs.map (ren1 τ))
  | x => ren1 τ x
def ren (τ : Nat → Nat) : PV → PV
  | .tup xs => .tup (xs.map (ren2 τ))
  | x => ren2 τ x

def has1 (p : Nat → Bool) : PV → Bool
  | .f _ => true
  | .ptr n _ => p n
  | .ref n _ _ => p n
  | .ep n _ _ => p n
  | _ => false
def has2 (p : Nat → Bool) : PV → Bool
  | .agg cs => cs.all (has1 p)
  | .clo _ cs => cs.all (has1 p)
  | x => has1 p x
def has (p : Nat → Bool) : PV → Bool
  | .tup xs => xs.all (has2 p)
  | x => has2 p x

theorem Rep.ren1 {φ φ2 : Nat → Phys} {nx k : Nat} {w : World} {S : Nat → Nat → Prop} {τ : Nat → Nat} {p : Nat → Bool} (hτ : ∀ n, n < nx → p n = true → φ2 (τ n) = φ n ∧ τ n < k) {x : PV} {v : Value}
    (h : Rep φ nx w S x v) (hp : has1 p x = true) : Rep φ2 k w S (Pv.ren1 τ x) v := by
  cases h with
  | f h => exact .f h
  | @ptr n off hn => obtain ⟨a, b⟩ := hτ n hn hp; rw [← a]; exact .ptr b
  | @refnil n hi hn h1 h2 h3 => obtain ⟨a, b⟩ := hτ n hn hp; rw [← a] at h1 h2; exact .refnil b h1 h2 h3
  | @ref n lo hi cap A hn h1 h2 h3 h4 h5 h6 => obtain ⟨a, b⟩ := hτ n hn hp; rw [← a] at h1 h2 h3 h4 h5 h6 ⊢; exact .ref b h1 h2 h3 h4 h5 h6
  | @ep n i off hn h1 h2 => obtain ⟨a, b⟩ := hτ n hn hp; rw [← a] at h1 h2 ⊢; exact .ep b h1 h2
  | agg => simp [has1] at hp
  | tup => simp [has1] at hp
  | clo => simp [has1] at hp

theorem Rep.ren2 {φ φ2 : Nat → Phys} {nx k : Nat} {w : World} {S : Nat → Nat → Prop} {τ : Nat → Nat} {p : Nat → Bool} (hτ : ∀ n, n < nx → p n = true → φ2 (τ n) = φ n ∧ τ n < k) {x : PV} {v : Value}
    (h : Rep φ nx w S x v) (hp : has2 p x = true) : Rep φ2 k w S (Pv.ren2 τ x) v := by
  cases h with
  | agg cs vs h1 h2 h3 =>
    refine .agg _ _ (by simp [h1]) h2 fun i d u hd hu => ?_
    simp only [List.getElem?_map, Option.map_eq_some_iff] at hd
    obtain ⟨d0, e1, rfl⟩ := hd
    exact (h3 i d0 u e1 hu).ren1 hτ (List.all_eq_true.1 hp d0 (List.mem_of_getElem? e1))
  | clo fn cs vs h1 h3 =>
    refine .clo _ _ _ (by simp [h1]) fun i d u hd hu => ?_
    simp only [List.getElem?_map, Option.map_eq_some_iff] at hd
    obtain ⟨d0, e1, rfl⟩ := hd
    exact (h3 i d0 u e1 hu).ren1 hτ (List.all_eq_true.1 hp d0 (List.mem_of_getElem? e1))
  | f h => exact Rep.ren1 hτ (.f h) hp
  | ptr hn => exact Rep.ren1 hτ (.ptr hn) hp
  | refnil a b d e => exact Rep.ren1 hτ (.refnil a b d e) hp
  | ref a b d e f g h => exact Rep.ren1 hτ (.ref a b d e f g h) hp
  | ep a b d => exact Rep.ren1 hτ (.ep a b d) hp
  | tup => simp [has2, has1] at hp

theorem Rep.ren {φ φ2 : Nat → Phys} {nx k : Nat} {w : World} {S : Nat → Nat → Prop} {τ : Nat → Nat} {p : Nat → Bool} (hτ : ∀ n, n < nx → p n = true → φ2 (τ n) = φ n ∧ τ n < k) {x : PV} {v : Value}
    (h : Rep φ nx w S x v) (hp : has p x = true) : Rep φ2 k w S (Pv.ren τ x) v := by
  cases h with
  | tup cs vs h1 h3 =>
    refine .tup _ _ (by simp [h1]) fun i d u hd hu => ?_
    simp only [List.getElem?_map, Option.map_eq_some_iff] at hd
    obtain ⟨d0, e1, rfl⟩ := hd
    exact (h3 i d0 u e1 hu).ren2 hτ (List.all_eq_true.1 hp d0 (List.mem_of_getElem? e1))
  | f h => exact Rep.ren2 hτ (.f h) hp
  | ptr hn => exact Rep.ren2 hτ (.ptr hn) hp
  | refnil a b d e => exact Rep.ren2 hτ (.refnil a b d e) hp
  | ref a b d e f g h => exact Rep.ren2 hτ (.ref a b d e f g h) hp
  | ep a b d => exact Rep.ren2 hτ (.ep a b d) hp
  | agg a b d e f => exact Rep.ren2 hτ (.agg a b d e f) hp
  | clo a b d e f => exact Rep.ren2 hτ (.clo a b d e f) hp

def renO (τ : Nat → Nat) : Obj → Obj
  | .obj cs => .obj (cs.map (ren2 τ))
  | x => x
def hasO (p : Nat → Bool) : Obj → Bool
  | .obj cs => cs.all (has2 p)
  | _ => true

theorem lim_renO (τ : Nat → Nat) (p : Phys) (o : Obj) : lim p (renO τ o) = lim p o := by cases o <;> rfl

theorem SatO.ren {φ φ2 : Nat → Phys} {nx k : Nat} {w : World} {S S2 : Nat → Nat → Prop} {τ : Nat → Nat} {p : Nat → Bool} (hτ : ∀ n, n < nx → p n = true → φ2 (τ n) = φ n ∧ τ n < k) {n m : Nat} {o : Obj}
    (hS : ∀ b off, S b off ↔ S2 b off) (he : φ2 m = φ n) (h : SatO φ nx w S n o) (hp : hasO p o = true) : SatO φ2 k w S2 m (renO τ o) := by
  have hSS : S = S2 := by funext b off; exact propext (hS b off)
  subst hSS
  cases o with
  | obj cs =>
    obtain ⟨h0, arr, ty, h1, h2, h3⟩ := h
    simp only [SatO, renO, he]
    refine ⟨h0, arr, ty, h1, by simp [h2], fun i d hd => ?_⟩
    simp only [List.getElem?_map, Option.map_eq_some_iff] at hd
    obtain ⟨d0, e1, rfl⟩ := hd
    obtain ⟨u, a1, a2, a3⟩ := h3 i d0 e1
    exact ⟨u, a1, a2, a3.ren2 hτ (List.all_eq_true.1 hp d0 (List.mem_of_getElem? e1))⟩
  | buf wr sz l => simp only [SatO, renO, he] at h ⊢; exact h
  | mp r es => simp only [SatO, renO, he] at h ⊢; exact h

/-- A function that has a text of its own. -/
def Callable (P : Program) (f : Nat) : Prop := ∃ fn, P.funcs[f]? = some fn ∧ fn.body.isSome = true ∧ (fn.name == "runtime.NumGoroutine") = false

/-- What a call does, told of abstract values. -/
def T (P : Program) (f : Nat) (args : List PV) (k : Nat) (H : Heap) (Q : PV → Nat → Heap → Prop) : Prop :=
  Callable P f ∧ ∀ (w : World) (φ : Nat → Phys) (So : Nat → Nat → Prop) (vals : Array Value), (∀ b off, So b off → b < w.heap.size) → Ok φ k So H w → vals.size = args.length →
    (∀ (i : Nat) a v, args[i]? = some a → vals[i]? = some v → Rep φ k w (SS So φ H) a v) →
    Calls P f vals w fun e w' => ∃ r k' H' φ' v, e = .returned v ∧ Q r k' H' ∧ Ok φ' k' So H' w' ∧ Rep φ' k' w' (SS So φ' H') r v ∧ Ext w w' (Own φ H) (Own φ' H') ∧ k ≤ k' ∧ ∀ n, n < k → φ' n = φ n

theorem T.mono {P : Program} {f : Nat} {args : List PV} {k : Nat} {H : Heap} {Q Q' : PV → Nat → Heap → Prop} (h : T P f args k H Q) (hq : ∀ r k' H', Q r k' H' → Q' r k' H') : T P f args k H Q' :=
  ⟨h.1, fun w φ So vals h1 h2 h3 h4 => (h.2 w φ So vals h1 h2 h3 h4).mono fun e w' ⟨r, k', H', φ', v, a, b, d⟩ => ⟨r, k', H', φ', v, a, hq _ _ _ b, d⟩⟩

def mkH : Nat → List Obj → Heap
  | _, [] => []
  | i, o :: t => (i, o) :: mkH (i + 1) t

theorem look_mkH : ∀ (os : List Obj) (i n : Nat), look (mkH i os) n = if i ≤ n then os[n - i]? else none
  | [], i, n => by simp [mkH, look]
  | o :: t, i, n => by
    simp only [mkH, look]
    by_cases h : i = n
    · subst h; simp
    · rw [if_neg h, look_mkH t (i + 1) n]
      by_cases h2 : i ≤ n
      · rw [if_pos h2, if_pos (by omega)]
        have : n - i = (n - (i + 1)) + 1 := by omega
        rw [this, List.getElem?_cons_succ]
      · rw [if_neg h2, if_neg (by omega)]

def drops (H : Heap) : List Nat → Heap
  | [] => H
  | n :: t => drops (drop H n) t

theorem look_drops : ∀ (ns : List Nat) (H : Heap) (n : Nat), look (drops H ns) n = if n ∈ ns then none else look H n
  | [], H, n => by simp [drops]
  | m :: t, H, n => by
    simp only [drops]
    rw [look_drops t (drop H m) n]
    by_cases h : n = m
    · subst h; simp [look_drop_same]
    · simp only [List.mem_cons, h, false_or]
      split
      · rfl
      · rw [look_drop_ne _ (fun e => h e.symm)]

def renH (τ : Nat → Nat) (H : Heap) : Heap := H.map fun p => (τ p.1, renO τ p.2)

theorem look_append {α : Type} (A B : List (Nat × α)) (n : Nat) : look (A ++ B) n = (look A n).or (look B n) := by
  induction A with
  | nil => simp [look]
  | cons p A ih =>
    obtain ⟨k, x⟩ := p
    simp only [List.cons_append, look]
    split
    · simp
    · exact ih

theorem look_renH {τ : Nat → Nat} {H : Heap} {n : Nat} {o : Obj} (h : look (renH τ H) n = some o) : ∃ i o', (i, o') ∈ H ∧ τ i = n ∧ o = renO τ o' := by
  induction H with
  | nil => simp [renH, look] at h
  | cons p H ih =>
    obtain ⟨k, x⟩ := p
    simp only [renH, List.map_cons, look] at h
    split at h
    · rename_i hk
      cases h
      exact ⟨k, x, by simp, hk, rfl⟩
    · obtain ⟨i, o', a, b, d⟩ := ih h
      exact ⟨i, o', by simp [a], b, d⟩

/-- No name stands twice. -/
def Dist (H : Heap) : Prop := ∀ n o, (n, o) ∈ H → look H n = some o

/-- The heap without what is shadowed. -/
def clean (H : Heap) : Heap := H.filterMap fun p => (look H p.1).map fun o => (p.1, o)

section
variable {P : Program} {tab : Tab} {c : Ctx} {nx : Nat} {env : Env} {H H' : Heap} {K : PV → Nat → Heap → Prop} {o : Oper}

/-- The names that a call is handed, in their order, and what is told of them. -/
structure Handed (H : Heap) (ns : List Nat) (os : List Obj) : Prop where
  len : os.length = ns.length
  obj : ∀ (i : Nat) n, ns[i]? = some n → ∃ o, os[i]? = some o ∧ look H n = some o
  nodup : ns.Nodup

def tau (ns : List Nat) (n : Nat) : Nat := ns.idxOf n
/-- The caller's name of a callee's. -/
def sig (ns : List Nat) (nx : Nat) (i : Nat) : Nat := if i < ns.length then ns.getD i 0 else nx + (i - ns.length)

theorem tau_mem {ns : List Nat} {n : Nat} (h : n ∈ ns) : tau ns n < ns.length ∧ ns.getD (tau ns n) 0 = n := by
  have h1 : tau ns n < ns.length := List.idxOf_lt_length_iff.2 h
  refine ⟨h1, ?_⟩
  unfold tau at *
  simp [List.getD_eq_getElem?_getD, h1]

theorem tau_get {ns : List Nat} (hd : ns.Nodup) {i n : Nat} (h : ns[i]? = some n) : tau ns n = i := by
  have hmem : n ∈ ns := List.mem_of_getElem? h
  obtain ⟨h1, h2⟩ := tau_mem hmem
  refine (List.getElem?_inj h1 hd).1 ?_
  rw [h, List.getElem?_eq_getElem h1]
  rw [List.getD_eq_getElem?_getD, List.getElem?_eq_getElem h1] at h2
  simpa using h2

/-- The state behind a call. -/
theorem StΦ.called {φ : Nat → Phys} {tmps : Array Value} {w w' : World} (hs : StΦ c nx env H φ tmps w) {ns : List Nat} {os : List Obj} (hh : Handed H ns os) {k' : Nat} {φ' φc : Nat → Phys} {Hr Hc : Heap} {r : PV} {v : Value}
    (hφc : φc = fun i => φ (ns.getD i 0)) (hHc : Hc = mkH 0 (os.map (renO (tau ns))))
    (hok : Ok φ' k' (fun b off => c.So b off ∨ Own φ (drops H ns) b off) Hr w') (hr : Rep φ' k' w' (SS (fun b off => c.So b off ∨ Own φ (drops H ns) b off) φ' Hr) r v)
    (hext : Ext w w' (Own φc Hc) (Own φ' Hr)) (hk : ns.length ≤ k') (hφ : ∀ n, n < ns.length → φ' n = φc n) (hd : Dist Hr)
    (hhas : ∀ n ob, (n, ob) ∈ Hr → hasO (fun _ => true) ob = true) (hhr : has (fun _ => true) r = true) :
    ∃ φ2, StΦ c (nx + (k' - ns.length)) env (renH (sig ns nx) Hr ++ drops H ns) φ2 tmps w' ∧
      Rep φ2 (nx + (k' - ns.length)) w' (SS c.So φ2 (renH (sig ns nx) Hr ++ drops H ns)) (ren (sig ns nx) r) v := by
  let φ2 : Nat → Phys := fun m => if m < nx then φ m else φ' (m - nx + ns.length)
  have hnsx : ∀ n, n ∈ ns → n < nx := by
    intro n hn
    obtain ⟨i, hi⟩ := List.getElem?_of_mem hn
    obtain ⟨o, _, h2⟩ := hh.obj i n hi
    exact (hs.ok.obj n o h2).1
  have hget : ∀ i, i < ns.length → ns.getD i 0 ∈ ns := by
    intro i hi
    simp [List.getD_eq_getElem?_getD, hi]
  have hsig : ∀ i, i < k' → φ2 (sig ns nx i) = φ' i ∧ sig ns nx i < nx + (k' - ns.length) := by
    intro i hi
    unfold sig
    by_cases hlt : i < ns.length
    · rw [if_pos hlt]
      have := hnsx _ (hget i hlt)
      refine ⟨?_, by omega⟩
      simp only [φ2]
      rw [if_pos this, hφ i hlt, hφc]
    · rw [if_neg hlt]
      refine ⟨?_, by omega⟩
      simp only [φ2]
      rw [if_neg (by omega)]
      congr 1; omega
  have hinj : ∀ i j, i < k' → j < k' → sig ns nx i = sig ns nx j → i = j := by
    intro i j hi hj e
    unfold sig at e
    by_cases h1 : i < ns.length
    · by_cases h2 : j < ns.length
      · rw [if_pos h1, if_pos h2] at e
        simp only [List.getD_eq_getElem?_getD, List.getElem?_eq_getElem h1, List.getElem?_eq_getElem h2, Option.getD_some] at e
        exact (List.getElem?_inj h1 hh.nodup).1 (by rw [List.getElem?_eq_getElem h1, List.getElem?_eq_getElem h2, e])
      · rw [if_pos h1, if_neg h2] at e
        have := hnsx _ (hget i h1); omega
    · by_cases h2 : j < ns.length
      · rw [if_neg h1, if_pos h2] at e
        have := hnsx _ (hget j h2); omega
      · rw [if_neg h1, if_neg h2] at e; omega
  -- what stands in the new heap
  have hlook : ∀ m o2, look (renH (sig ns nx) Hr ++ drops H ns) m = some o2 →
      (∃ i o1, look Hr i = some o1 ∧ i < k' ∧ m = sig ns nx i ∧ o2 = renO (sig ns nx) o1 ∧ φ2 m = φ' i) ∨ (m ∉ ns ∧ look H m = some o2 ∧ m < nx ∧ φ2 m = φ m) := by
    intro m o2 hm
    rw [look_append] at hm
    cases hA : look (renH (sig ns nx) Hr) m with
    | some oA =>
      rw [hA] at hm
      simp at hm
      subst hm
      obtain ⟨i, o1, a1, a2, a3⟩ := look_renH hA
      have hl := hd i o1 a1
      have hik := (hok.obj i o1 hl).1
      exact .inl ⟨i, o1, hl, hik, a2.symm, a3, by rw [← a2]; exact (hsig i hik).1⟩
    | none =>
      rw [hA] at hm
      simp at hm
      rw [look_drops] at hm
      split at hm
      · cases hm
      · rename_i hmn
        have := (hs.ok.obj m o2 hm).1
        exact .inr ⟨hmn, hm, this, by simp only [φ2]; rw [if_pos this]⟩
  have hback : ∀ i o1, look Hr i = some o1 → look (renH (sig ns nx) Hr ++ drops H ns) (sig ns nx i) = some (renO (sig ns nx) o1) := by
    intro i o1 hi
    rw [look_append]
    have hik := (hok.obj i o1 hi).1
    have : look (renH (sig ns nx) Hr) (sig ns nx i) = some (renO (sig ns nx) o1) := by
      cases hA : look (renH (sig ns nx) Hr) (sig ns nx i) with
      | some oA =>
        obtain ⟨j, o1', a1, a2, a3⟩ := look_renH hA
        have hl := hd j o1' a1
        have : j = i := hinj j i (hok.obj j o1' hl).1 hik a2
        subst this
        rw [hi] at hl; cases hl
        rw [a3]
      | none =>
        exfalso
        have hmem := look_mem hi
        have : ∀ L : Heap, (i, o1) ∈ L → look (renH (sig ns nx) L) (sig ns nx i) ≠ none := by
          intro L hL
          induction L with
          | nil => cases hL
          | cons p L ih =>
            obtain ⟨q, x⟩ := p
            simp only [renH, List.map_cons, look]
            split
            · simp
            · rename_i hq
              rcases List.mem_cons.1 hL with h | h
              · cases h; exact absurd rfl hq
              · exact ih h
        exact this Hr hmem hA
    rw [this]; rfl
  have hback2 : ∀ m o2, m ∉ ns → look H m = some o2 → look (renH (sig ns nx) Hr ++ drops H ns) m = some o2 := by
    intro m o2 hm hl
    rw [look_append]
    have hnone : look (renH (sig ns nx) Hr) m = none := by
      cases hA : look (renH (sig ns nx) Hr) m with
      | none => rfl
      | some oA =>
        exfalso
        obtain ⟨i, o1, a1, a2, a3⟩ := look_renH hA
        unfold sig at a2
        split at a2
        · rename_i hlt; rw [← a2] at hm; exact hm (hget i hlt)
        · have := (hs.ok.obj m o2 hl).1; omega
    rw [hnone, look_drops, if_neg hm]; simpa using hl
  have hOwn : ∀ b off, Own φ2 (renH (sig ns nx) Hr ++ drops H ns) b off ↔ (Own φ' Hr b off ∨ Own φ (drops H ns) b off) := by
    intro b off
    constructor
    · rintro ⟨m, o2, h1, h2, h3, h4⟩
      rcases hlook m o2 h1 with ⟨i, o1, k1, k2, rfl, rfl, k5⟩ | ⟨k1, k2, k3, k4⟩
      · rw [k5] at h2 h3 h4; rw [lim_renO] at h4
        exact .inl ⟨i, o1, k1, h2, h3, h4⟩
      · rw [k4] at h2 h3 h4
        exact .inr ⟨m, o2, by rw [look_drops, if_neg k1]; exact k2, h2, h3, h4⟩
    · rintro (⟨i, o1, h1, h2, h3, h4⟩ | ⟨m, o2, h1, h2, h3, h4⟩)
      · have hik := (hok.obj i o1 h1).1
        refine ⟨_, _, hback i o1 h1, ?_, ?_, ?_⟩
        · rw [(hsig i hik).1]; exact h2
        · rw [(hsig i hik).1]; exact h3
        · rw [(hsig i hik).1, lim_renO]; exact h4
      · rw [look_drops] at h1
        split at h1
        · cases h1
        · rename_i hmn
          have hlt := (hs.ok.obj m o2 h1).1
          have he : φ2 m = φ m := by simp only [φ2]; rw [if_pos hlt]
          exact ⟨m, o2, hback2 m o2 hmn h1, by rw [he]; exact h2, by rw [he]; exact h3, by rw [he]; exact h4⟩
  have hSS : ∀ b off, SS (fun b off => c.So b off ∨ Own φ (drops H ns) b off) φ' Hr b off ↔ SS c.So φ2 (renH (sig ns nx) Hr ++ drops H ns) b off := by
    intro b off
    simp only [SS]
    rw [hOwn]
    constructor
    · rintro ((h | h) | h)
      · exact .inl h
      · exact .inr (.inr h)
      · exact .inr (.inl h)
    · rintro (h | h | h)
      · exact .inl (.inl h)
      · exact .inr h
      · exact .inl (.inr h)
  have hOwnc : ∀ b off, Own φc Hc b off → Own φ H b off := by
    rintro b off ⟨i, o1, h1, h2, h3, h4⟩
    rw [hHc, look_mkH] at h1
    simp only [Nat.zero_le, if_true, Nat.sub_zero, List.getElem?_map, Option.map_eq_some_iff] at h1
    obtain ⟨o0, h5, rfl⟩ := h1
    have hlt : i < ns.length := by rw [← hh.len]; exact (List.getElem?_eq_some_iff.1 h5).1
    obtain ⟨o', h6, h7⟩ := hh.obj i ns[i] (by simp [hlt])
    rw [h6] at h5; cases h5
    have e : ns.getD i 0 = ns[i] := by simp [List.getD_eq_getElem?_getD, hlt]
    rw [hφc] at h2 h3 h4
    simp only [e, lim_renO] at h2 h3 h4
    exact ⟨_, _, h7, h2, h3, h4⟩
  have hE : Ext w w' (Own φ H) (Own φ2 (renH (sig ns nx) Hr ++ drops H ns)) := by
    refine ⟨hext.os, hext.tape, hext.output, hext.size, fun b hb hO => hext.blk b hb fun off ho => hO off (hOwnc b off ho), fun b off hb hO => hext.cell b off hb fun ho => hO (hOwnc b off ho), ?_⟩
    intro b off hb hO
    rcases (hOwn b off).1 hO with h | ⟨m, o2, h1, h2⟩
    · exact hOwnc b off (hext.own b off hb h)
    · rw [look_drops] at h1
      split at h1
      · cases h1
      · exact ⟨m, o2, h1, h2⟩
  have hall : ∀ n, n < k' → (fun _ : Nat => true) n = true → φ2 (sig ns nx n) = φ' n ∧ sig ns nx n < nx + (k' - ns.length) := fun n hn _ => hsig n hn
  refine ⟨φ2, hs.next (fun n hn => by simp only [φ2]; rw [if_pos hn]) (Nat.le_add_right _ _) ?_ hE, ?_⟩
  · refine ⟨fun m o2 hm => ?_, fun a b o1 o2 h1 h2 hne n1 n2 => ?_, fun m o2 hm hmn off hso => ?_⟩
    · rcases hlook m o2 hm with ⟨i, o1, k1, k2, rfl, rfl, k5⟩ | ⟨k1, k2, k3, k4⟩
      · exact ⟨(hsig i k2).2, (hok.obj i o1 k1).2.ren hall hSS k5 (hhas i o1 (look_mem k1))⟩
      · have ks := (hs.ok.obj m o2 k2).2
        have hmono : Mono w (SS c.So φ H) w' (SS c.So φ2 (renH (sig ns nx) Hr ++ drops H ns)) := hE.mono
        refine ⟨by omega, ks.step (fun n hn => by simp only [φ2]; rw [if_pos hn]) (Nat.le_add_right _ _) hmono k3 fun hf => ?_⟩
        refine hext.blk _ (ks.lt hf) fun off ho => ?_
        rw [hHc, hφc] at ho
        obtain ⟨i, o1, h1, h2, h3, h4⟩ := ho
        rw [look_mkH] at h1
        simp only [Nat.zero_le, if_true, Nat.sub_zero, List.getElem?_map, Option.map_eq_some_iff] at h1
        obtain ⟨o0, h5, rfl⟩ := h1
        have hlt : i < ns.length := by rw [← hh.len]; exact (List.getElem?_eq_some_iff.1 h5).1
        obtain ⟨o', h6, h7⟩ := hh.obj i ns[i] (by simp [hlt])
        have e : ns.getD i 0 = ns[i] := by simp [List.getD_eq_getElem?_getD, hlt]
        simp only [e] at h2 h3
        exact hs.ok.dis ns[i] m o' o2 h7 k2 (fun e => k1 (by rw [← e]; simp)) h2 hf h3
    · rcases hlook a o1 h1 with ⟨i, oi, k1, k2, rfl, rfl, k5⟩ | ⟨k1, k2, k3, k4⟩
      · rcases hlook b o2 h2 with ⟨j, oj, j1, j2, rfl, rfl, j5⟩ | ⟨j1, j2, j3, j4⟩
        · rw [k5] at n1 ⊢; rw [j5] at n2 ⊢
          exact hok.dis i j oi oj k1 j1 (fun e => hne (by rw [e])) n1 n2
        · rw [k5] at n1 ⊢; rw [j4] at n2 ⊢
          intro e
          exact hok.out i oi k1 n1 (lim (φ b) o2) (.inr ⟨b, o2, by rw [look_drops, if_neg j1]; exact j2, n2, e.symm, Nat.le_refl _⟩)
      · rcases hlook b o2 h2 with ⟨j, oj, j1, j2, rfl, rfl, j5⟩ | ⟨j1, j2, j3, j4⟩
        · rw [k4] at n1 ⊢; rw [j5] at n2 ⊢
          intro e
          exact hok.out j oj j1 n2 (lim (φ a) o1) (.inr ⟨a, o1, by rw [look_drops, if_neg k1]; exact k2, n1, e, Nat.le_refl _⟩)
        · rw [k4] at n1 ⊢; rw [j4] at n2 ⊢
          exact hs.ok.dis a b o1 o2 k2 j2 hne n1 n2
    · rcases hlook m o2 hm with ⟨i, o1, k1, k2, rfl, rfl, k5⟩ | ⟨k1, k2, k3, k4⟩
      · rw [k5] at hmn hso
        exact hok.out i o1 k1 hmn off (.inl hso)
      · rw [k4] at hmn hso
        exact hs.ok.out m o2 k2 hmn off hso
  · have := hr.ren hall hhr
    have e : SS (fun b off => c.So b off ∨ Own φ (drops H ns) b off) φ' Hr = SS c.So φ2 (renH (sig ns nx) Hr ++ drops H ns) := by funext b off; exact propext (hSS b off)
    rw [e] at this
    exact this
end
end Go.Proofs.YtnajikpdnccilaaGreat.Pv
