/- A region that draws its order: what is told in the text's order holds in every order. -/
import Derived.Test.YtnajikpdnccilaaGreatPvMW
import Derived.Orders
set_option linter.unusedVariables false
set_option linter.unusedSimpArgs false
namespace Go.Proofs.YtnajikpdnccilaaGreat.Pv.M
open Go

/-! ### Names -/
theorem allB_intro {α : Type} {f : α → Bool} : ∀ {l : List α}, (∀ a ∈ l, f a = true) → allB f l = true
  | [], _ => rfl
  | x :: t, h => by
    show Bool.rec (motive := fun _ => Bool) false (allB f t) (f x) = true
    rw [h x List.mem_cons_self]
    exact allB_intro fun a ha => h a (List.mem_cons_of_mem _ ha)
theorem hasV_agg (p : Nat → Bool) : ∀ (cs : List MV), hasV p (.agg cs) = allB (hasV p) cs
  | [] => rfl
  | x :: t => by
    show oc (hasV p x) (hasV p (.agg t)) = _
    rw [hasV_agg p t]; rfl
theorem hasV_tup (p : Nat → Bool) : ∀ (cs : List MV), hasV p (.tup cs) = allB (hasV p) cs
  | [] => rfl
  | x :: t => by
    show oc (hasV p x) (hasV p (.tup t)) = _
    rw [hasV_tup p t]; rfl
theorem hasV_clo (p : Nat → Bool) (f : Nat) (as bs : List MV) : hasV p (.clo f as bs) = oc (allB (hasV p) as) (allB (hasV p) bs) := by
  rw [← hasV_agg, ← hasV_agg]; rfl
theorem oc_intro {a b : Bool} (h1 : a = true) (h2 : b = true) : oc a b = true := by rw [h1, h2]; rfl
section
variable {ρ : Nat → Int}
abbrev ltB (m : Nat) : Nat → Bool := fun n => decide (n < m)
theorem Rel.has {φ : Nat → Ph} {nx : Nat} {x : MV} {v : Value} (h : Rel ρ φ nx x v) : hasV (ltB nx) x = true := by
  have row : ∀ {cs : List MV} {vs : Array Value}, vs.size = cs.length → (∀ (i : Nat) c u, cs[i]? = some c → vs[i]? = some u → hasV (ltB nx) c = true) → allB (hasV (ltB nx)) cs = true := by
    intro cs vs hs h
    refine allB_intro fun a ha => ?_
    obtain ⟨i, hi⟩ := List.getElem?_of_mem ha
    have hlt : i < vs.size := by rw [hs]; exact (List.getElem?_eq_some_iff.1 hi).1
    exact h i a vs[i] hi (by simp [hlt])
  induction h with
  | ptr h => exact decide_eq_true h
  | sl h => exact decide_eq_true h
  | agg cs vs hs _ _ ih => rw [hasV_agg]; exact row hs ih
  | tup cs vs hs _ ih => rw [hasV_tup]; exact row hs ih
  | clo f as bs xs ys h1 _ h2 _ i1 i2 => rw [hasV_clo]; exact oc_intro (row h1 i1) (row h2 i2)
  | mp h => exact decide_eq_true h
  | ifc t x u _ ih => exact ih
  | _ => rfl
theorem Rel.less {φ φ2 : Nat → Ph} {nx nx2 : Nat} {p : Nat → Bool} (hp : ∀ n, n < nx → p n = true → φ2 n = φ n ∧ n < nx2) {x : MV} {v : Value} (h : Rel ρ φ nx x v) : hasV p x = true → Rel ρ φ2 nx2 x v := by
  have mem : ∀ {cs : List MV} {i : Nat} {c : MV}, allB (hasV p) cs = true → cs[i]? = some c → hasV p c = true := fun h hc => allB_inv h _ (List.mem_of_getElem? hc)
  induction h with
  | v x => exact fun _ => .v x
  | b x => exact fun _ => .b x
  | n k c => exact fun _ => .n k c
  | a k c l => exact fun _ => .a k c l
  | @ptr n off h => intro hx; obtain ⟨e, l⟩ := hp n h hx; rw [← e]; exact .ptr l
  | @sl sz n off l cap A c h h1 h2 h3 h4 => intro hx; obtain ⟨e, l⟩ := hp n h hx; rw [← e] at h3 h4; exact .sl l h1 h2 h3 h4
  | agg cs vs hs ho _ ih => intro hx; rw [hasV_agg] at hx; exact .agg cs vs hs ho fun i c u h1 h2 => ih i c u h1 h2 (mem hx h1)
  | tup cs vs hs _ ih => intro hx; rw [hasV_tup] at hx; exact .tup cs vs hs fun i c u h1 h2 => ih i c u h1 h2 (mem hx h1)
  | clo f as bs xs ys h1 _ h2 _ i1 i2 =>
    intro hx; rw [hasV_clo] at hx
    obtain ⟨a, b⟩ := oc_inv hx
    exact .clo f as bs xs ys h1 (fun i c u e1 e2 => i1 i c u e1 e2 (mem a e1)) h2 fun i c u e1 e2 => i2 i c u e1 e2 (mem b e1)
  | @mp n h => intro hx; obtain ⟨e, l⟩ := hp n h hx; rw [← e]; exact .mp l
  | ifc t x u _ ih => exact fun hx => .ifc t x u (ih hx)
theorem ObjOk.has {φ : Nat → Ph} {nx n : Nat} {w : World} {o : MO} (h : ObjOk ρ φ nx w n o) : hasO (ltB nx) o = true := by
  cases o with
  | cells l =>
    obtain ⟨arr, ty, _, _, h3⟩ := h
    refine allB_intro fun a ha => ?_
    obtain ⟨i, hi⟩ := List.getElem?_of_mem ha
    obtain ⟨u, _, _, d⟩ := h3 i a hi
    exact d.has
  | map es =>
    obtain ⟨ents, clock, _, _, h3⟩ := h
    refine allB_intro fun a ha => ?_
    obtain ⟨i, hi⟩ := List.getElem?_of_mem ha
    obtain ⟨m, _, d1, d2⟩ := h3 i a hi
    exact oc_intro d1.has d2.has
  | dead => rfl
theorem ObjOk.less {φ φ2 : Nat → Ph} {nx nx2 n : Nat} {w : World} {p : Nat → Bool} (hp : ∀ n, n < nx → p n = true → φ2 n = φ n ∧ n < nx2) {o : MO} (he : φ2 n = φ n) (h : ObjOk ρ φ nx w n o) (ho : hasO p o = true) : ObjOk ρ φ2 nx2 w n o := by
  cases o with
  | cells l =>
    obtain ⟨arr, ty, h1, h2, h3⟩ := h
    refine ⟨arr, ty, by rw [he]; exact h1, by rw [he]; exact h2, fun i c hc => ?_⟩
    obtain ⟨u, a, b, d⟩ := h3 i c hc
    exact ⟨u, by rw [he]; exact a, b, d.less hp (allB_inv (show allB (hasV p) l = true from ho) c (List.mem_of_getElem? hc))⟩
  | map es =>
    obtain ⟨ents, clock, h1, h2, h3⟩ := h
    refine ⟨ents, clock, by rw [he]; exact h1, h2, fun i e hc => ?_⟩
    obtain ⟨m, a, b, d⟩ := h3 i e hc
    obtain ⟨q1, q2⟩ := oc_inv (allB_inv (show allB (fun e => oc (hasV p e.1) (hasV p e.2)) es = true from ho) e (List.mem_of_getElem? hc))
    exact ⟨m, a, b.less hp q1, d.less hp q2⟩
  | dead => trivial
theorem hasV_mono {p q : Nat → Bool} (hpq : ∀ n, p n = true → q n = true) {φ : Nat → Ph} {nx : Nat} {x : MV} {v : Value} (h : Rel ρ φ nx x v) : hasV p x = true → hasV q x = true := by
  have row : ∀ {cs : List MV} {vs : Array Value}, vs.size = cs.length → (∀ (i : Nat) c u, cs[i]? = some c → vs[i]? = some u → hasV p c = true → hasV q c = true) → allB (hasV p) cs = true → allB (hasV q) cs = true := by
    intro cs vs hs h hx
    refine allB_intro fun a ha => ?_
    obtain ⟨i, hi⟩ := List.getElem?_of_mem ha
    have hlt : i < vs.size := by rw [hs]; exact (List.getElem?_eq_some_iff.1 hi).1
    exact h i a vs[i] hi (by simp [hlt]) (allB_inv hx a ha)
  induction h with
  | ptr h => exact hpq _
  | sl h => exact hpq _
  | agg cs vs hs _ _ ih => intro hx; rw [hasV_agg] at hx ⊢; exact row hs ih hx
  | tup cs vs hs _ ih => intro hx; rw [hasV_tup] at hx ⊢; exact row hs ih hx
  | clo f as bs xs ys h1 _ h2 _ i1 i2 => intro hx; rw [hasV_clo] at hx ⊢; obtain ⟨a, b⟩ := oc_inv hx; exact oc_intro (row h1 i1 a) (row h2 i2 b)
  | mp h => exact hpq _
  | ifc t x u _ ih => exact ih
  | _ => exact fun _ => rfl
theorem hasO_mono {p q : Nat → Bool} (hpq : ∀ n, p n = true → q n = true) {φ : Nat → Ph} {nx n : Nat} {w : World} {o : MO} (h : ObjOk ρ φ nx w n o) (hx : hasO p o = true) : hasO q o = true := by
  cases o with
  | cells l =>
    obtain ⟨arr, ty, _, _, h3⟩ := h
    refine allB_intro fun a ha => ?_
    obtain ⟨i, hi⟩ := List.getElem?_of_mem ha
    obtain ⟨u, _, _, d⟩ := h3 i a hi
    exact hasV_mono hpq d (allB_inv (show allB (hasV p) l = true from hx) a ha)
  | map es =>
    obtain ⟨ents, clock, _, _, h3⟩ := h
    refine allB_intro fun a ha => ?_
    obtain ⟨i, hi⟩ := List.getElem?_of_mem ha
    obtain ⟨m, _, d1, d2⟩ := h3 i a hi
    obtain ⟨q1, q2⟩ := oc_inv (allB_inv (show allB (fun e => oc (hasV p e.1) (hasV p e.2)) es = true from hx) a ha)
    exact oc_intro (hasV_mono hpq d1 q1) (hasV_mono hpq d2 q2)
  | dead => rfl
theorem look_app {α : Type} (A B : List (Nat × α)) (n : Nat) : look (A ++ B) n = (look A n).or (look B n) := by
  induction A with
  | nil => simp [look]
  | cons p t ih =>
    rw [List.cons_append, look_cons, look_cons, ih]
    split <;> simp

/-! ### A part of what is known -/
def Ctx.part (c : Ctx) (w : World) (φ : Nat → Ph) (HS : Heap) (M : Nat) : Ctx := { w0 := w, O0 := Own φ HS, k := M, φ0 := φ, nt := c.nt }
structure Part (H HS HR : Heap) : Prop where
  l : ∀ n o, look HS n = some o → look H n = some o
  r : ∀ n o, look HR n = some o → look H n = some o
  lr : ∀ n o o', look HS n = some o → look HR n = some o' → False
  all : ∀ n o, look H n = some o → look HS n = some o ∨ look HR n = some o
section
variable {c : Ctx} {env : Env} {H : Heap}
theorem St.part {N M : Nat} {φ : Nat → Ph} {tmps : Array Value} {w : World} (hs : St ρ c N env H φ tmps w) {eS : Env} {HS : Heap} (hp : ∀ n o, look HS n = some o → look H n = some o)
    (he : ∀ k x, look eS k = some x → look env k = some x ∧ hasV (ltB M) x = true) (hH : ∀ n o, look HS n = some o → n < M ∧ hasO (ltB M) o = true) : St ρ (c.part w φ HS M) M eS HS φ tmps w := by
  refine ⟨⟨fun n o hn => ?_, fun n m o1 o2 h1 h2 => hs.ok.dis n m o1 o2 (hp _ _ h1) (hp _ _ h2)⟩, fun k x hk => ?_, Ext.refl _ _, ⟨Nat.le_refl _, fun _ _ => rfl⟩, hs.size⟩
  · obtain ⟨a, b⟩ := hs.ok.obj n o (hp n o hn)
    obtain ⟨d, e⟩ := hH n o hn
    exact ⟨d, b.less (fun n _ hn => ⟨rfl, of_decide_eq_true hn⟩) rfl e⟩
  · obtain ⟨a, b⟩ := he k x hk
    obtain ⟨v, v1, v2⟩ := hs.env k x a
    exact ⟨v, v1, v2.less (fun n _ hn => ⟨rfl, of_decide_eq_true hn⟩) b⟩
abbrev outP (M M' : Nat) (n : Nat) : Bool := decide (n < M) || decide (M' ≤ n)
theorem St.whole {N M M' : Nat} {φ φ' : Nat → Ph} {tmps : Array Value} {w w' : World} (hs : St ρ c N env H φ tmps w) {eS : Env} {HS HR HS' : Heap} (hp : Part H HS HR) (hM : M ≤ M') (hM' : M' ≤ N)
    (h : St ρ (c.part w φ HS M) M' eS HS' φ' tmps w') {env' : Env} (he : ∀ k x, look env' k = some x → look env k = some x ∧ hasV (outP M M') x = true)
    (hR : ∀ n o, look HR n = some o → (n < M ∨ M' ≤ n) ∧ hasO (outP M M') o = true) (hname : ∀ n o o', look HS' n = some o → look HR n = some o' → False)
    (hk : c.k ≤ M) {pv : MV} {v : Value} (hr : Rel ρ φ' M' pv v) : ∃ φ2, St ρ c N env' (HS' ++ HR) φ2 tmps w' ∧ Rel ρ φ2 N pv v := by
  let φ2 : Nat → Ph := fun n => if n < M' then φ' n else φ n
  have hkeep : ∀ n, n < M → φ' n = φ n := h.keep.2
  have hφ2a : ∀ n, n < M' → φ2 n = φ' n := fun n hn => by simp only [φ2]; rw [if_pos hn]
  have hφ2b : ∀ n, (n < M ∨ M' ≤ n) → φ2 n = φ n := by
    intro n hn
    simp only [φ2]
    split
    · rcases hn with h | h
      · exact hkeep n h
      · omega
    · rfl
  have hext : Ext w w' (Own φ HS) (Own φ' HS') := h.ext
  have hOwn : ∀ b, Own φ2 (HS' ++ HR) b → (Own φ' HS' b ∨ Own φ HR b) := by
    rintro b ⟨n, o, m1, m2, m3⟩
    rw [look_app] at m1
    cases hq : look HS' n with
    | some o1 =>
      rw [hq] at m1; simp at m1; subst m1
      have := (h.ok.obj n o1 hq).1
      rw [hφ2a n this] at m3
      exact .inl ⟨n, o1, hq, m2, m3⟩
    | none =>
      rw [hq] at m1; simp at m1
      rw [hφ2b n (hR n o m1).1] at m3
      exact .inr ⟨n, o, m1, m2, m3⟩
  have hOS : ∀ b, Own φ HS b → Own φ H b := by rintro b ⟨n, o, m1, m2⟩; exact ⟨n, o, hp.l n o m1, m2⟩
  have hE : Ext w w' (Own φ H) (Own φ2 (HS' ++ HR)) := by
    refine ⟨hext.os, hext.tape, hext.output, hext.size, fun b hb hO => hext.blk b hb fun ho => hO (hOS b ho), ?_⟩
    intro b hb hO
    rcases hOwn b hO with h | ⟨n, o, m1, m2⟩
    · exact hOS b (hext.own b hb h)
    · exact ⟨n, o, hp.r n o m1, m2⟩
  have hless : ∀ n, n < N → outP M M' n = true → φ2 n = φ n ∧ n < N := fun n hn hd => ⟨hφ2b n (by simpa [outP] using hd), hn⟩
  have hnew : ∀ n, n < M' → ltB M' n = true → φ2 n = φ' n ∧ n < N := fun n hn _ => ⟨hφ2a n hn, by omega⟩
  -- a block of the part's is none of the rest's
  have apart : ∀ n m o1 o2, look HS' n = some o1 → look HR m = some o2 → o1 ≠ .dead → o2 ≠ .dead → (φ' n).blk ≠ (φ m).blk := by
    intro n m o1 o2 h1 h2 d1 d2 e
    have hlt := (hs.ok.obj m o2 (hp.r m o2 h2)).2.lt d2
    obtain ⟨q, oq, q1, q2, q3⟩ := hext.own _ (by rw [e]; exact hlt) ⟨n, o1, h1, d1, rfl⟩
    refine hs.ok.dis q m oq o2 (hp.l q oq q1) (hp.r m o2 h2) (fun e2 => ?_) q2 d2 (by rw [q3, e])
    subst e2; exact hp.lr q oq o2 q1 h2
  refine ⟨φ2, ⟨⟨fun n o hn => ?_, fun n m o1 o2 h1 h2 hne n1 n2 => ?_⟩, fun k x hk' => ?_, hs.ext.trans hE, ⟨Nat.le_trans hk (by omega), fun n hn => ?_⟩, hs.size⟩, hr.less hnew hr.has⟩
  · rw [look_app] at hn
    cases hq : look HS' n with
    | some o1 =>
      rw [hq] at hn; simp at hn; subst hn
      obtain ⟨a, b⟩ := h.ok.obj n o1 hq
      exact ⟨by omega, b.less hnew (hφ2a n a) b.has⟩
    | none =>
      rw [hq] at hn; simp at hn
      obtain ⟨a, b⟩ := hs.ok.obj n o (hp.r n o hn)
      obtain ⟨d, e⟩ := hR n o hn
      refine ⟨a, ?_⟩
      have b2 := b.step (φ' := φ) (nx' := N) (w' := w') (fun _ _ => rfl) (Nat.le_refl _) a fun hd => by
        refine hext.blk _ (b.lt hd) ?_
        rintro ⟨m, o2, m1, m2, m3⟩
        refine hs.ok.dis m n o2 o (hp.l m o2 m1) (hp.r n o hn) (fun e => ?_) m2 hd m3
        subst e; exact hp.lr m o2 o m1 hn
      exact b2.less hless (hφ2b n d) e
  · rw [look_app] at h1 h2
    cases hq1 : look HS' n with
    | some oo1 =>
      rw [hq1] at h1; simp at h1; subst h1
      have a1 := (h.ok.obj n oo1 hq1).1
      cases hq2 : look HS' m with
      | some oo2 =>
        rw [hq2] at h2; simp at h2; subst h2
        have a2 := (h.ok.obj m oo2 hq2).1
        rw [hφ2a n a1, hφ2a m a2]
        exact h.ok.dis n m oo1 oo2 hq1 hq2 hne n1 n2
      | none =>
        rw [hq2] at h2; simp at h2
        rw [hφ2a n a1, hφ2b m (hR m o2 h2).1]
        exact apart n m oo1 o2 hq1 h2 n1 n2
    | none =>
      rw [hq1] at h1; simp at h1
      rw [hφ2b n (hR n o1 h1).1]
      cases hq2 : look HS' m with
      | some oo2 =>
        rw [hq2] at h2; simp at h2; subst h2
        rw [hφ2a m (h.ok.obj m oo2 hq2).1]
        exact fun e => apart m n oo2 o1 hq2 h1 n2 n1 e.symm
      | none =>
        rw [hq2] at h2; simp at h2
        rw [hφ2b m (hR m o2 h2).1]
        exact hs.ok.dis n m o1 o2 (hp.r _ _ h1) (hp.r _ _ h2) hne n1 n2
  · obtain ⟨a, b⟩ := he k x hk'
    obtain ⟨u, u1, u2⟩ := hs.env k x a
    exact ⟨u, u1, u2.less hless b⟩
  · rw [hφ2b n (.inl (by omega))]; exact hs.keep.2 n hn
end

/-! ### What each operation leaves -/
structure Cert where
  o : Oper
  pv : MV
  eS : Env
  hS : Heap
  hT : Heap
  M : Nat
  M' : Nat
  bef : List Nat
noncomputable def Cert.touches (c : Cert) (n : Nat) : Bool := (look c.hT n).isSome
def upE (c : Cert) (f : Nat → Option MV) : Nat → Option MV := fun k => if c.o.dst = some k then some c.pv else f k
noncomputable def upH (c : Cert) (g : Nat → Option MO) : Nat → Option MO := fun n => if c.touches n then look c.hT n else g n
/-- What a row of updates leaves, of those that are done. -/
def fold {α β : Type} (up : Cert → (Nat → Option β) → (Nat → Option β)) (X : Nat → Bool) : List Cert → Nat → (Nat → Option β) → (Nat → Option β)
  | [], _, f => f
  | c :: t, i, f => fold (α := α) up X t (i + 1) (if X i then up c f else f)

section
variable {β : Type}

/-- Updates that write at some places alone. -/
structure Local (up : Cert → (Nat → Option β) → (Nat → Option β)) (wr : Cert → Nat → Bool) (val : Cert → Nat → Option β) : Prop where
  yes : ∀ c f k, wr c k = true → up c f k = val c k
  no : ∀ c f k, wr c k = false → up c f k = f k

theorem fold_agree {up : Cert → (Nat → Option β) → (Nat → Option β)} {wr : Cert → Nat → Bool} {val : Cert → Nat → Option β} (hl : Local up wr val) {X Y : Nat → Bool} {k : Nat} :
    ∀ (cs : List Cert) (i : Nat) (f g : Nat → Option β), f k = g k → (∀ j c, cs[j]? = some c → wr c k = true → X (i + j) = Y (i + j)) → fold (α := Unit) up X cs i f k = fold (α := Unit) up Y cs i g k
  | [], i, f, g, h, _ => h
  | c :: t, i, f, g, h, ha => by
    simp only [fold]
    refine fold_agree hl t (i + 1) _ _ ?_ fun j c' hj hw => by
      have := ha (j + 1) c' (by simpa using hj) hw
      rw [Nat.add_assoc, Nat.add_comm 1 j]; exact this
    cases hw : wr c k with
    | true =>
      have e := ha 0 c rfl hw
      simp only [Nat.add_zero] at e
      rw [e]
      split
      · rw [hl.yes c f k hw, hl.yes c g k hw]
      · exact h
    | false => split <;> split <;> simp [hl.no _ _ _ hw, h]

theorem fold_last {up : Cert → (Nat → Option β) → (Nat → Option β)} {wr : Cert → Nat → Bool} {val : Cert → Nat → Option β} (hl : Local up wr val) {X : Nat → Bool} {k : Nat} :
    ∀ (cs : List Cert) (i : Nat) (f : Nat → Option β) (j : Nat) (c : Cert), cs[j]? = some c → X (i + j) = true → wr c k = true → (∀ q c', cs[q]? = some c' → j < q → wr c' k = true → X (i + q) = false) →
      fold (α := Unit) up X cs i f k = val c k
  | [], i, f, j, c, h, _, _, _ => by simp at h
  | c0 :: t, i, f, 0, c, h, hx, hw, hn => by
    simp at h; subst h
    simp only [Nat.add_zero] at hx
    simp only [fold, hx, if_true]
    have : fold (α := Unit) up X t (i + 1) (up c0 f) k = fold (α := Unit) up (fun _ => false) t (i + 1) (up c0 f) k := fold_agree hl t (i + 1) _ _ rfl fun q c' hq hw' => by
      have := hn (q + 1) c' (by simpa using hq) (by omega) hw'
      rw [Nat.add_assoc, Nat.add_comm 1 q]; exact this
    rw [this]
    have e : ∀ (t : List Cert) (i : Nat) (f : Nat → Option β), fold (α := Unit) up (fun _ => false) t i f = f := by
      intro t; induction t with
      | nil => intros; rfl
      | cons c t ih => intro i f; simp only [fold]; exact ih _ _
    rw [e, hl.yes _ _ _ hw]
  | c0 :: t, i, f, j + 1, c, h, hx, hw, hn => by
    simp only [fold]
    exact fold_last hl t (i + 1) _ j c (by simpa using h) (by rw [Nat.add_assoc, Nat.add_comm 1 j]; exact hx) hw fun q c' hq hjq hw' => by
      have := hn (q + 1) c' (by simpa using hq) (by omega) hw'
      rw [Nat.add_assoc, Nat.add_comm 1 q]; exact this

theorem fold_all {up : Cert → (Nat → Option β) → (Nat → Option β)} : ∀ (cs : List Cert) (i : Nat) (f : Nat → Option β), fold (α := Unit) up (fun _ => true) cs i f = cs.foldl (fun f c => up c f) f
  | [], _, _ => rfl
  | c :: t, i, f => by simp only [fold, if_true, List.foldl_cons]; exact fold_all t (i + 1) _

theorem fold_below {up : Cert → (Nat → Option β) → (Nat → Option β)} : ∀ (cs : List Cert) (i j : Nat) (f : Nat → Option β), fold (α := Unit) up (fun q => decide (q < i + j)) cs i f = (cs.take j).foldl (fun f c => up c f) f
  | [], _, _, _ => by simp [fold]
  | c :: t, i, 0, f => by
    simp only [fold, Nat.add_zero, Nat.lt_irrefl, decide_false, Bool.false_eq_true, if_false, List.take_zero, List.foldl_nil]
    have e : ∀ (t : List Cert) (m : Nat) (f : Nat → Option β), i ≤ m → fold (α := Unit) up (fun q => decide (q < i)) t m f = f := by
      intro t; induction t with
      | nil => intros; rfl
      | cons c t ih => intro m f hm; simp only [fold]; rw [if_neg (by simpa using hm)]; exact ih _ _ (by omega)
    exact e t (i + 1) f (by omega)
  | c :: t, i, j + 1, f => by
    simp only [fold, List.take_succ_cons, List.foldl_cons]
    rw [if_pos (by simp)]
    have := fold_below (up := up) t (i + 1) j (up c f)
    rw [show i + 1 + j = i + (j + 1) by omega] at this
    exact this
end


def wrE (c : Cert) (k : Nat) : Bool := decide (c.o.dst = some k)
theorem localE : Local upE wrE (fun c _ => some c.pv) := ⟨fun c f k h => by simp only [upE]; rw [if_pos (by simpa [wrE] using h)], fun c f k h => by simp only [upE]; rw [if_neg (by simpa [wrE] using h)]⟩
theorem localH : Local upH Cert.touches (fun c n => look c.hT n) := ⟨fun c f k h => by simp only [upH]; rw [if_pos h], fun c f k h => by simp only [upH]; rw [if_neg (by simp [h])]⟩
def listOf {α : Type} (n : Nat) (f : Nat → Option α) : List (Nat × α) := (List.range n).filterMap fun k => (f k).map fun x => (k, x)
theorem look_listOf {α : Type} (f : Nat → Option α) : ∀ (n k : Nat), look (listOf n f) k = if k < n then f k else none := by
  intro n
  induction n with
  | zero => intro k; simp [listOf, look]
  | succ n ih =>
    intro k
    have e : listOf (n + 1) f = listOf n f ++ (match f n with | some x => [(n, x)] | none => []) := by
      simp only [listOf, List.range_succ, List.filterMap_append]
      congr 1
      cases hf : f n <;> simp [hf]
    rw [e, look_app, ih k]
    by_cases h : k < n
    · rw [if_pos h, if_pos (by omega)]
      cases hf : f k with
      | some x => rfl
      | none =>
        cases hn : f n with
        | none => simp [look_nil]
        | some x => simp [look_cons, look_nil, show ¬ (n = k) by omega]
    · rw [if_neg h]
      by_cases h2 : k = n
      · subst h2
        rw [if_pos (by omega)]
        cases hn : f k with
        | none => simp [look_nil]
        | some x => simp [look_cons]
      · rw [if_neg (by omega)]
        cases hn : f n with
        | none => simp [look_nil]
        | some x => simp [look_cons, look_nil, show ¬ (n = k) from fun e => h2 e.symm]

/-- What is told of an operation's certificate: it is what the operation does; or it is not wanted. -/
def COk (ρ : Nat → Int) (P : Program) (nt : Nat) (ops : Array Oper) (c : Cert) : Prop :=
  Option.rec (motive := fun _ => Bool) true (fun d => Nat.ble (Nat.succ d) nt) c.o.dst = true ∧ c.M ≤ c.M' ∧ ∃ b : Bool, (b = true → ∀ c', DoesB ρ P c.o c' c.M c.eS c.hS c.pv c.M' (c.hT ++ c.hS)) ∧ (b = false → c.pv = undefM ∧ c.hT = []) ∧
    (∀ {c' nx H φ tmps w}, St ρ c' nx c.eS H φ tmps w → Region.wanted c.o (yielded ops tmps) = b) ∧ ∀ n o, look c.hT n = some o → (look c.hS n).isSome = true ∨ c.M ≤ n
def meet (a b : Cert) : Prop :=
  (∃ k, a.o.dst = some k ∧ (b.o.dst = some k ∨ (look b.eS k).isSome = true)) ∨ (∃ n, a.touches n = true ∧ (b.touches n = true ∨ (look b.hS n).isSome = true))
def silent (a b : Cert) : Prop := hasV (outP a.M a.M') b.pv = true ∧ ∀ n o, look b.hT n = some o → outP a.M a.M' n = true ∧ hasO (outP a.M a.M') o = true
/-- What was done speaks of names that there are. -/
def Good (c : Cert) : Prop := (∃ (ρ : Nat → Int) (φ : Nat → Ph) (v : Value), Rel ρ φ c.M' c.pv v) ∧ ∀ n o, look c.hT n = some o → n < c.M' ∧ ∃ (ρ : Nat → Int) (φ : Nat → Ph) (w : World), ObjOk ρ φ c.M' w n o
structure Plan (ρ : Nat → Int) (P : Program) (nt k0 nx0 N : Nat) (ops : Array Oper) (env0 : Env) (H0 : Heap) (cs : List Cert) : Prop where
  len : cs.length = ops.size
  op : ∀ (j : Nat) c, cs[j]? = some c → ops[j]? = some c.o
  ok : ∀ (j : Nat) c, cs[j]? = some c → COk ρ P nt ops c
  names : ∀ (j : Nat) c, cs[j]? = some c → nx0 ≤ c.M ∧ c.M' ≤ N
  mono : ∀ (i j : Nat) a b, cs[i]? = some a → cs[j]? = some b → i < j → a.M' ≤ b.M
  k : k0 ≤ nx0
  nx : nx0 ≤ N
  envB : ∀ q x, look env0 q = some x → (∃ (ρ : Nat → Int) (φ : Nat → Ph) (v : Value), Rel ρ φ nx0 x v) ∧ q < nt
  heapB : ∀ n o, look H0 n = some o → n < nx0 ∧ ∃ (ρ : Nat → Int) (φ : Nat → Ph) (w : World), ObjOk ρ φ nx0 w n o
  readE : ∀ (j : Nat) c, cs[j]? = some c → ∀ q x, look c.eS q = some x → ((cs.take j).foldl (fun f c => upE c f) (look env0)) q = some x
  readH : ∀ (j : Nat) c, cs[j]? = some c → ∀ n o, look c.hS n = some o → ((cs.take j).foldl (fun f c => upH c f) (look H0)) n = some o
  back : ∀ (j : Nat) c, cs[j]? = some c → ∀ e ∈ c.o.after, Region.binds .any e = true → e.on < j
  edge : ∀ (j : Nat) c, cs[j]? = some c → ∀ i ∈ c.bef, ∃ e ∈ c.o.after, Region.binds .any e = true ∧ (i = e.on ∨ ∃ c', cs[e.on]? = some c' ∧ i ∈ c'.bef)
  order : ∀ (i j : Nat) a b, cs[i]? = some a → cs[j]? = some b → i ≠ j → meet a b → (i < j ∧ i ∈ b.bef) ∨ (j < i ∧ j ∈ a.bef)
  mention : ∀ (i j : Nat) a b, cs[i]? = some a → cs[j]? = some b → i < j → ¬ silent a b → i ∈ b.bef
def cnt (X : Nat → Bool) : Nat → Nat
  | 0 => 0
  | m + 1 => cnt X m + (if X m then 0 else 1)

theorem cnt_zero {X : Nat → Bool} : ∀ {m : Nat}, cnt X m = 0 → ∀ i, i < m → X i = true
  | 0, _, i, h => by omega
  | m + 1, h, i, hi => by
    simp only [cnt] at h
    by_cases e : i = m
    · subst e
      cases hx : X i with
      | true => rfl
      | false => simp [hx] at h
    · have h0 : cnt X m = 0 := by omega
      exact cnt_zero h0 i (by omega)

theorem cnt_set {X X' : Nat → Bool} {j : Nat} (hj : X j = false) (h : ∀ i, X' i = if i = j then true else X i) : ∀ {m : Nat}, cnt X' m + (if j < m then 1 else 0) = cnt X m
  | 0 => by simp [cnt]
  | m + 1 => by
    have ih := cnt_set hj h (m := m)
    simp only [cnt]
    by_cases e : m = j
    · subst e
      have hx' : X' m = true := by rw [h]; simp
      rw [hx', hj]
      simp at ih ⊢
      omega
    · have hx' : X' m = X m := by rw [h]; simp [e]
      rw [hx']
      have e2 : (j < m + 1) ↔ (j < m) := by omega
      simp only [e2]
      omega

theorem fold_source {β : Type} {up : Cert → (Nat → Option β) → (Nat → Option β)} {wr : Cert → Nat → Bool} {val : Cert → Nat → Option β} (hl : Local up wr val) {X : Nat → Bool} {k : Nat} {x : β} :
    ∀ (cs : List Cert) (i : Nat) (f : Nat → Option β), fold (α := Unit) up X cs i f k = some x → f k = some x ∨ ∃ j c, cs[j]? = some c ∧ X (i + j) = true ∧ wr c k = true ∧ val c k = some x
  | [], i, f, h => .inl h
  | c :: t, i, f, h => by
    simp only [fold] at h
    rcases fold_source hl t (i + 1) _ h with h1 | ⟨j, c', a1, a2, a3, a4⟩
    · split at h1
      · rename_i hx
        cases hw : wr c k with
        | true => rw [hl.yes c f k hw] at h1; exact .inr ⟨0, c, rfl, hx, hw, h1⟩
        | false => rw [hl.no c f k hw] at h1; exact .inl h1
      · exact .inl h1
    · exact .inr ⟨j + 1, c', by simpa using a1, by rw [show i + (j + 1) = i + 1 + j by omega]; exact a2, a3, a4⟩


section
variable {P : Program} {c : Ctx} {nx : Nat} {env : Env} {H : Heap}
theorem St.subEnv {φ : Nat → Ph} {tmps : Array Value} {w : World} (h : St ρ c nx env H φ tmps w) {env1 : Env} (he : ∀ k x, look env1 k = some x → look env k = some x) : St ρ c nx env1 H φ tmps w :=
  ⟨h.ok, fun k x hk => h.env k x (he k x hk), h.ext, h.keep, h.size⟩
theorem St.subH {φ : Nat → Ph} {tmps : Array Value} {w : World} (h : St ρ c nx env H φ tmps w) {H1 : Heap} (he : ∀ k x, look H1 k = some x → look H k = some x) : St ρ c nx env H1 φ tmps w :=
  h.sub (fun m o hm _ => he m o hm) fun m hm => (h.ok.obj m _ (he m _ hm)).1
theorem St.raise {φ : Nat → Ph} {tmps : Array Value} {w : World} (h : St ρ c nx env H φ tmps w) {N : Nat} (hN : nx ≤ N) : St ρ c N env H φ tmps w := by
  refine h.next (fun _ _ => rfl) hN ?_ (Ext.refl _ _)
  exact ⟨fun n o hn => by obtain ⟨a, b⟩ := h.ok.obj n o hn; exact ⟨by omega, b.step (fun _ _ => rfl) hN a fun _ => rfl⟩, h.ok.dis⟩
theorem St.same {φ : Nat → Ph} {tmps : Array Value} {w w' : World} (h : St ρ c nx env H φ tmps w) (ho : w'.os = w.os) (ht : w'.tape = w.tape) (hu : w'.output = w.output) (hh : w'.heap = w.heap) : St ρ c nx env H φ tmps w' := by
  refine h.next (fun _ _ => rfl) (Nat.le_refl _) ⟨fun n o hn => ?_, h.ok.dis⟩ ⟨ho, ht, hu, by rw [hh]; exact Nat.le_refl _, fun b _ _ => by rw [hh], fun b _ hb => hb⟩
  obtain ⟨a, b⟩ := h.ok.obj n o hn
  exact ⟨a, b.step (fun _ _ => rfl) (Nat.le_refl _) a fun _ => by rw [hh]⟩
noncomputable abbrev foldE (X : Nat → Bool) (cs : List Cert) (env0 : Env) : Nat → Option MV := fold (α := Unit) upE X cs 0 (look env0)
noncomputable abbrev foldH (X : Nat → Bool) (cs : List Cert) (H0 : Heap) : Nat → Option MO := fold (α := Unit) upH X cs 0 (look H0)
/-- One operation, whatever of the others is done. -/
theorem Plan.step {nx0 N : Nat} {ops : Array Oper} {env0 : Env} {H0 : Heap} {cs : List Cert} (pl : Plan ρ P c.nt c.k nx0 N ops env0 H0 cs) {Q : Exit → Act → World → Prop}
    {X X' : Nat → Bool} {φ : Nat → Ph} {tmps : Array Value} {w : World} (hs : St ρ c N (listOf c.nt (foldE X cs env0)) (listOf N (foldH X cs H0)) φ tmps w) (hG : ∀ (j : Nat) c', cs[j]? = some c' → X j = true → Good c')
    (hX : ∀ (j : Nat) c', cs[j]? = some c' → X j = true → ∀ i ∈ c'.bef, X i = true) {j : Nat} {cj : Cert} (hj : cs[j]? = some cj) (hXj : X j = false) (hbef : ∀ i ∈ cj.bef, X i = true)
    (hX' : ∀ i, X' i = if i = j then true else X i) {K : Act → World → Prop}
    (hK : ∀ φ tmps w, St ρ c N (listOf c.nt (foldE X' cs env0)) (listOf N (foldH X' cs H0)) φ tmps w → Good cj → K (act tmps) w) : wpOp P ops Q j K (act tmps) w := by
  obtain ⟨hdst, hMM, b, hrun, hno, hwant, hfresh⟩ := pl.ok j cj hj
  obtain ⟨hM0, hM'⟩ := pl.names j cj hj
  have hother : ∀ (i : Nat) ci, cs[i]? = some ci → i ≠ j → (meet ci cj ∨ meet cj ci) → X i = decide (i < j) := by
    intro i ci hi hne hm
    have key : (i < j ∧ i ∈ cj.bef) ∨ (j < i ∧ j ∈ ci.bef) := by
      rcases hm with hm | hm
      · exact pl.order i j ci cj hi hj hne hm
      · rcases pl.order j i cj ci hj hi (fun e => hne e.symm) hm with h | h
        · exact .inr h
        · exact .inl h
    rcases key with ⟨h1, h2⟩ | ⟨h1, h2⟩
    · rw [hbef i h2]; simp [h1]
    · have : X i = false := by
        cases hx : X i with
        | false => rfl
        | true => have := hX i ci hi hx j h2; rw [hXj] at this; cases this
      rw [this]; simp; omega
  have hfoldE : ∀ k, (∀ (i : Nat) ci, cs[i]? = some ci → wrE ci k = true → X i = decide (i < j)) → foldE X cs env0 k = ((cs.take j).foldl (fun f c => upE c f) (look env0)) k := by
    intro k h
    have := fold_below (up := upE) cs 0 j (look env0)
    rw [← this]
    exact fold_agree localE cs 0 _ _ rfl fun q cq hq hw => by simpa using h q cq hq hw
  have hfoldH : ∀ k, (∀ (i : Nat) ci, cs[i]? = some ci → ci.touches k = true → X i = decide (i < j)) → foldH X cs H0 k = ((cs.take j).foldl (fun f c => upH c f) (look H0)) k := by
    intro k h
    have := fold_below (up := upH) cs 0 j (look H0)
    rw [← this]
    exact fold_agree localH cs 0 _ _ rfl fun q cq hq hw => by simpa using h q cq hq hw
  have weak : ∀ {m n : Nat} {x : MV}, m ≤ n → (∃ (ρ : Nat → Int) (φ : Nat → Ph) (v : Value), Rel ρ φ m x v) → hasV (ltB n) x = true := by
    rintro m n x hmn ⟨ρ', φ', v, h⟩
    exact hasV_mono (fun q hq => decide_eq_true (Nat.lt_of_lt_of_le (of_decide_eq_true hq) hmn)) h h.has
  have weakO : ∀ {m n q : Nat} {o : MO}, m ≤ n → (∃ (ρ : Nat → Int) (φ : Nat → Ph) (w : World), ObjOk ρ φ m w q o) → hasO (ltB n) o = true := by
    rintro m n q o hmn ⟨ρ', φ', w', h⟩
    exact hasO_mono (fun q hq => decide_eq_true (Nat.lt_of_lt_of_le (of_decide_eq_true hq) hmn)) h h.has
  have outw : ∀ n, ltB cj.M n = true → outP cj.M cj.M' n = true := fun n hn => by simp only [outP, Bool.or_eq_true]; exact .inl hn
  have heS : ∀ k x, look cj.eS k = some x → look (listOf c.nt (foldE X cs env0)) k = some x ∧ hasV (ltB cj.M) x = true := by
    intro k x hk
    have hm : ∀ (i : Nat) ci, cs[i]? = some ci → i ≠ j → wrE ci k = true → X i = decide (i < j) := fun i ci hi e hw => hother i ci hi e (.inl (.inl ⟨k, by simpa [wrE] using hw, .inr (by rw [hk]; rfl)⟩))
    have hfe : foldE X cs env0 k = some x := by
      rw [hfoldE k fun i ci hi hw => ?_]
      · exact pl.readE j cj hj k x hk
      · by_cases e : i = j
        · subst e; rw [hXj]; simp
        · exact hm i ci hi e hw
    rcases fold_source localE cs 0 _ hfe with h | ⟨i, ci, a1, a2, a3, a4⟩
    · obtain ⟨q1, q2⟩ := pl.envB k x h
      exact ⟨by rw [look_listOf, if_pos q2]; exact hfe, weak hM0 q1⟩
    · simp only [Nat.zero_add] at a2
      have hij : i ≠ j := fun e => by subst e; rw [hXj] at a2; cases a2
      have hlt : i < j := by have := hm i ci a1 hij a3; rw [a2] at this; exact of_decide_eq_true this.symm
      have hd : ci.o.dst = some k := by simpa [wrE] using a3
      have hkn : k < c.nt := by have := (pl.ok i ci a1).1; rw [hd] at this; exact Nat.le_of_ble_eq_true this
      refine ⟨by rw [look_listOf, if_pos hkn]; exact hfe, ?_⟩
      have hx : ci.pv = x := by simpa using a4
      rw [← hx]
      exact weak (pl.mono i j ci cj a1 hj hlt) (hG i ci a1 a2).1
  have hHS : ∀ n o, look cj.hS n = some o → look (listOf N (foldH X cs H0)) n = some o ∧ n < cj.M ∧ hasO (ltB cj.M) o = true := by
    intro n o hn
    have hm : ∀ (i : Nat) ci, cs[i]? = some ci → i ≠ j → ci.touches n = true → X i = decide (i < j) := fun i ci hi e hw => hother i ci hi e (.inl (.inr ⟨n, hw, .inr (by rw [hn]; rfl)⟩))
    have hfe : foldH X cs H0 n = some o := by
      rw [hfoldH n fun i ci hi hw => ?_]
      · exact pl.readH j cj hj n o hn
      · by_cases e : i = j
        · subst e; rw [hXj]; simp
        · exact hm i ci hi e hw
    have key : n < cj.M ∧ hasO (ltB cj.M) o = true := by
      rcases fold_source localH cs 0 _ hfe with h | ⟨i, ci, a1, a2, a3, a4⟩
      · obtain ⟨q1, q2⟩ := pl.heapB n o h
        exact ⟨by omega, weakO hM0 q2⟩
      · simp only [Nat.zero_add] at a2
        have hij : i ≠ j := fun e => by subst e; rw [hXj] at a2; cases a2
        have hlt : i < j := by have := hm i ci a1 hij a3; rw [a2] at this; exact of_decide_eq_true this.symm
        obtain ⟨g1, g2⟩ := (hG i ci a1 a2).2 n o a4
        have := pl.mono i j ci cj a1 hj hlt
        exact ⟨by omega, weakO this g2⟩
    exact ⟨by rw [look_listOf, if_pos (by omega)]; exact hfe, key⟩
  have hquietE : ∀ k x, foldE X cs env0 k = some x → hasV (outP cj.M cj.M') x = true := by
    intro k x hk
    rcases fold_source localE cs 0 _ hk with h | ⟨i, ci, a1, a2, a3, a4⟩
    · obtain ⟨ρ', φ', v, h2⟩ := (pl.envB k x h).1
      exact hasV_mono (fun n hn => outw n (decide_eq_true (Nat.lt_of_lt_of_le (of_decide_eq_true hn) hM0))) h2 h2.has
    · simp only [Nat.zero_add] at a2
      have hij : i ≠ j := fun e => by subst e; rw [hXj] at a2; cases a2
      have hx : ci.pv = x := by simpa using a4
      rw [← hx]
      rcases Nat.lt_or_gt_of_ne hij with hlt | hgt
      · obtain ⟨ρ', φ', v, h2⟩ := (hG i ci a1 a2).1
        exact hasV_mono (fun n hn => outw n (decide_eq_true (Nat.lt_of_lt_of_le (of_decide_eq_true hn) (pl.mono i j ci cj a1 hj hlt)))) h2 h2.has
      · by_cases hsil : silent cj ci
        · exact hsil.1
        · have := hX i ci a1 a2 j (pl.mention j i cj ci hj a1 hgt hsil)
          rw [hXj] at this; cases this
  have hquietH : ∀ n o, foldH X cs H0 n = some o → outP cj.M cj.M' n = true ∧ hasO (outP cj.M cj.M') o = true := by
    intro n o hn
    rcases fold_source localH cs 0 _ hn with h | ⟨i, ci, a1, a2, a3, a4⟩
    · obtain ⟨h1, ρ', φ', w', h2⟩ := pl.heapB n o h
      exact ⟨outw n (decide_eq_true (by omega)), hasO_mono (fun n hn => outw n (decide_eq_true (Nat.lt_of_lt_of_le (of_decide_eq_true hn) hM0))) h2 h2.has⟩
    · simp only [Nat.zero_add] at a2
      have hij : i ≠ j := fun e => by subst e; rw [hXj] at a2; cases a2
      rcases Nat.lt_or_gt_of_ne hij with hlt | hgt
      · obtain ⟨h1, ρ', φ', w', h2⟩ := (hG i ci a1 a2).2 n o a4
        have hle := pl.mono i j ci cj a1 hj hlt
        exact ⟨outw n (decide_eq_true (by omega)), hasO_mono (fun n hn => outw n (decide_eq_true (Nat.lt_of_lt_of_le (of_decide_eq_true hn) hle))) h2 h2.has⟩
      · by_cases hsil : silent cj ci
        · exact hsil.2 n o a4
        · have := hX i ci a1 a2 j (pl.mention j i cj ci hj a1 hgt hsil)
          rw [hXj] at this; cases this
  have hE' : ∀ k, wrE cj k = false → foldE X' cs env0 k = foldE X cs env0 k := fun k hk => fold_agree localE cs 0 _ _ rfl fun q cq hq hw => by
    rw [Nat.zero_add, hX' q]
    by_cases e : q = j
    · subst e; rw [hj] at hq; cases hq; rw [hk] at hw; cases hw
    · rw [if_neg e]
  have hH' : ∀ k, cj.touches k = false → foldH X' cs H0 k = foldH X cs H0 k := fun k hk => fold_agree localH cs 0 _ _ rfl fun q cq hq hw => by
    rw [Nat.zero_add, hX' q]
    by_cases e : q = j
    · subst e; rw [hj] at hq; cases hq; rw [hk] at hw; cases hw
    · rw [if_neg e]
  have hlater : ∀ (q : Nat) cq, cs[q]? = some cq → j < q → (meet cq cj ∨ meet cj cq) → X' (0 + q) = false := by
    intro q cq hq hlt hm
    rw [Nat.zero_add, hX' q, if_neg (by omega), hother q cq hq (by omega) hm]
    simp; omega
  have hEj : ∀ k, wrE cj k = true → foldE X' cs env0 k = some cj.pv := fun k hk => fold_last localE cs 0 _ j cj hj (by rw [Nat.zero_add, hX' j]; simp) hk fun q cq hq hlt hw =>
    hlater q cq hq hlt (.inr (.inl ⟨k, by simpa [wrE] using hk, .inl (by simpa [wrE] using hw)⟩))
  have hHj : ∀ k, cj.touches k = true → foldH X' cs H0 k = look cj.hT k := fun k hk => fold_last localH cs 0 _ j cj hj (by rw [Nat.zero_add, hX' j]; simp) hk fun q cq hq hlt hw =>
    hlater q cq hq hlt (.inr (.inr ⟨k, hk, .inl hw⟩))
  -- slots anew
  have slots : ∀ {env1 : Env} {H1 : Heap} {φ1 tmps1 w1 u}, St ρ c N env1 H1 φ1 tmps1 w1 → Rel ρ φ1 N cj.pv u → (∀ k x, wrE cj k = false → foldE X cs env0 k = some x → k < c.nt → look env1 k = some x) →
      St ρ c N (listOf c.nt (foldE X' cs env0)) H1 φ1 ((act tmps1).put cj.o.dst u).tmps w1 := by
    intro env1 H1 φ1 tmps1 w1 u hs1 hr hsub
    refine (hs1.putE hr hdst).subEnv fun k x hk => ?_
    rw [look_listOf] at hk
    split at hk
    · rename_i hlt
      cases hw : wrE cj k with
      | true =>
        rw [hEj k hw] at hk
        have hd : cj.o.dst = some k := by simpa [wrE] using hw
        rw [hd]
        show look ((k, cj.pv) :: env1) k = some x
        rw [look_same]; exact hk
      | false =>
        rw [hE' k hw] at hk
        have hbase := hsub k x hw hk hlt
        cases hd : cj.o.dst with
        | none => exact hbase
        | some d =>
          show look ((d, cj.pv) :: env1) k = some x
          rw [look_ne _ _ (fun e => by simp [wrE, hd, e] at hw)]; exact hbase
    · cases hk
  have hst : St ρ c N cj.eS (listOf N (foldH X cs H0)) φ tmps w := hs.subEnv fun k x hk => (heS k x hk).1
  unfold wpOp
  rw [pl.op j cj hj]
  simp only
  rw [hwant hst]
  cases b with
  | false =>
    rw [if_neg (by simp)]
    obtain ⟨e1, e2⟩ := hno rfl
    rw [put_act]
    have htouch : ∀ k, cj.touches k = false := fun k => by simp [Cert.touches, e2, look_nil]
    refine hK φ _ w ((slots hs (by rw [e1]; exact .v undef) (fun k x _ hk hlt => by rw [look_listOf, if_pos hlt]; exact hk)).subH fun n o hn => ?_) ⟨⟨ρ, φ, undef, by rw [e1]; exact .v undef⟩, fun n o hn => by rw [e2, look_nil] at hn; cases hn⟩
    rw [look_listOf] at hn ⊢
    split at hn
    · rename_i hlt; rw [if_pos hlt]; rw [hH' n (htouch n)] at hn; exact hn
    · cases hn
  | true =>
    rw [if_pos rfl]
    refine .inl ?_
    let HR : Heap := listOf N (fun n => if (look cj.hS n).isSome then none else foldH X cs H0 n)
    have hHR : ∀ n o, look HR n = some o → (look cj.hS n).isSome = false ∧ foldH X cs H0 n = some o ∧ n < N := by
      intro n o hn
      simp only [HR, look_listOf] at hn
      split at hn
      · rename_i hlt
        cases hq : look cj.hS n with
        | some o1 => rw [hq] at hn; simp at hn
        | none => rw [hq] at hn; exact ⟨rfl, by simpa using hn, hlt⟩
      · cases hn
    have hpart : Part (listOf N (foldH X cs H0)) cj.hS HR := by
      refine ⟨fun n o hn => (hHS n o hn).1, fun n o hn => ?_, fun n o o' hn hn' => ?_, fun n o hn => ?_⟩
      · obtain ⟨a1, a2, a3⟩ := hHR n o hn
        rw [look_listOf, if_pos a3]; exact a2
      · have := (hHR n o' hn').1
        rw [hn] at this; cases this
      · cases hq : look cj.hS n with
        | some o1 =>
          have := (hHS n o1 hq).1
          rw [hn] at this; cases this; exact .inl rfl
        | none =>
          right
          simp only [HR, look_listOf, hq] at hn ⊢
          split at hn
          · rename_i hlt; rw [if_pos hlt]; simpa using hn
          · cases hn
    have hsS := hs.part (fun n o hn => (hHS n o hn).1) heS (fun n o hn => (hHS n o hn).2)
    refine hrun rfl _ φ tmps w hsS K Q fun φ' u w' hs' hr _ _ => ?_
    have hgood : Good cj := ⟨⟨ρ, φ', u, hr⟩, fun n o hn => by
      obtain ⟨a, b⟩ := hs'.ok.obj n o (by rw [look_app, hn]; rfl)
      exact ⟨a, ρ, φ', w', b⟩⟩
    obtain ⟨φ2, g1, g2⟩ := hs.whole hpart hMM hM' hs' (env' := listOf c.nt (fun k => if wrE cj k then none else foldE X cs env0 k))
      (fun k x hk => by
        rw [look_listOf] at hk ⊢
        split at hk
        · rename_i hlt
          rw [if_pos hlt]
          split at hk
          · cases hk
          · exact ⟨hk, hquietE k x hk⟩
        · cases hk)
      (fun n o hn => by
        obtain ⟨a1, a2, a3⟩ := hHR n o hn
        obtain ⟨b1, b2⟩ := hquietH n o a2
        exact ⟨by simpa [outP] using b1, b2⟩)
      (fun n o o' hn hn' => by
        obtain ⟨a1, a2, a3⟩ := hHR n o' hn'
        obtain ⟨b1, b2⟩ := hquietH n o' a2
        rw [look_app] at hn
        cases hq : look cj.hS n with
        | some o1 => rw [hq] at a1; cases a1
        | none =>
          rw [hq, Option.or_none] at hn
          have hlt := (hgood.2 n o hn).1
          rcases hfresh n o hn with h | h
          · rw [hq] at h; cases h
          · simp [outP] at b1; omega)
      (by have := pl.k; omega) hr
    rw [put_act]
    refine hK φ2 _ w' ((slots g1 g2 (fun k x hw hk hlt => by rw [look_listOf, if_pos hlt, hw]; exact hk)).subH fun n o hn => ?_) hgood
    rw [look_listOf] at hn
    split at hn
    · rename_i hlt
      rw [look_app, look_app]
      cases htc : cj.touches n with
      | true =>
        rw [hHj n htc] at hn
        rw [hn]; rfl
      | false =>
        rw [hH' n htc] at hn
        have hT : look cj.hT n = none := by
          cases hq : look cj.hT n with
          | none => rfl
          | some o1 => simp [Cert.touches, hq] at htc
        rw [hT]
        cases hq : look cj.hS n with
        | some o1 =>
          have := (hHS n o1 hq).1
          rw [look_listOf, if_pos hlt, hn] at this
          cases this; rfl
        | none =>
          simp only [Option.or_none, Option.none_or, HR, look_listOf, if_pos hlt, hq]
          simpa using hn
    · cases hn
theorem getD_true (l : Array Bool) (j i : Nat) (hj : j < l.size) : (l.setIfInBounds j true).getD i false = if i = j then true else l.getD i false := by
  by_cases h : i = j
  · subst h; simp [hj]
  · rw [if_neg h]
    simp only [Array.getD_eq_getD_getElem?, Array.getElem?_setIfInBounds]
    rw [if_neg (fun e => h e.symm)]

theorem getD_same {l : Array Bool} {j : Nat} (hj : j < l.size) : l.getD j true = l.getD j false := by simp [hj]

theorem Plan.run {nx0 N : Nat} {ops : Array Oper} {env0 : Env} {H0 : Heap} {cs : List Cert} (pl : Plan ρ P c.nt c.k nx0 N ops env0 H0 cs) {Q : Exit → Act → World → Prop}
    (hQ : ∀ φ tmps w, St ρ c N (listOf c.nt (foldE (fun _ => true) cs env0)) (listOf N (foldH (fun _ => true) cs H0)) φ tmps w → Q .normal (act tmps) w) :
    ∀ (fuel : Nat) (listed : Array Bool) (φ : Nat → Ph) (tmps : Array Value) (w : World), listed.size = ops.size → cnt (fun i => listed.getD i false) ops.size = fuel →
      (∀ (j : Nat) c', cs[j]? = some c' → listed.getD j false = true → ∀ i ∈ c'.bef, listed.getD i false = true) → (∀ (j : Nat) c', cs[j]? = some c' → listed.getD j false = true → Good c') →
      St ρ c N (listOf c.nt (foldE (fun i => listed.getD i false) cs env0)) (listOf N (foldH (fun i => listed.getD i false) cs H0)) φ tmps w → wpAny P .any ops Q fuel listed (act tmps) w := by
  have hdone : ∀ (listed : Array Bool) (φ : Nat → Ph) (tmps : Array Value) (w : World), cnt (fun i => listed.getD i false) ops.size = 0 →
      St ρ c N (listOf c.nt (foldE (fun i => listed.getD i false) cs env0)) (listOf N (foldH (fun i => listed.getD i false) cs H0)) φ tmps w → Q .normal (act tmps) w := by
    intro listed φ tmps w hc hs
    refine hQ φ tmps w ((hs.subEnv fun k x hk => ?_).subH fun n o hn => ?_)
    · rw [look_listOf] at hk ⊢
      split at hk
      · rename_i hlt
        rw [if_pos hlt]
        rw [← hk]
        exact fold_agree localE cs 0 _ _ rfl fun q cq hq hw => by
          rw [Nat.zero_add]
          exact cnt_zero hc q (by rw [← pl.len]; exact (List.getElem?_eq_some_iff.1 hq).1)
      · cases hk
    · rw [look_listOf] at hn ⊢
      split at hn
      · rename_i hlt
        rw [if_pos hlt]
        rw [← hn]
        exact fold_agree localH cs 0 _ _ rfl fun q cq hq hw => by
          rw [Nat.zero_add]
          exact cnt_zero hc q (by rw [← pl.len]; exact (List.getElem?_eq_some_iff.1 hq).1)
      · cases hn
  -- while something is left, something is ready
  have hready : ∀ listed : Array Bool, listed.size = ops.size → Region.ready .any ops listed = [] → cnt (fun i => listed.getD i false) ops.size = 0 := by
    intro listed hsz hr
    have hall : ∀ i, i < ops.size → listed.getD i false = true := by
      intro i
      induction i using Nat.strongRecOn with
      | _ i ih =>
        intro hi
        cases hx : listed.getD i false with
        | true => rfl
        | false =>
          exfalso
          have hic : i < cs.length := by rw [pl.len]; exact hi
          have hmem : i ∈ Region.ready .any ops listed := by
            rw [mem_ready]
            refine ⟨by rw [getD_same (by omega)]; exact hx, cs[i].o, pl.op i cs[i] (by simp [hic]), fun e he hb => ?_⟩
            have hlt := pl.back i cs[i] (by simp [hic]) e he hb
            exact ih e.on hlt (by omega)
          rw [hr] at hmem; cases hmem
    have : ∀ m, m ≤ ops.size → cnt (fun i => listed.getD i false) m = 0 := by
      intro m
      induction m with
      | zero => intro _; rfl
      | succ m ih =>
        intro hm
        have h1 := hall m (by omega)
        simp only [cnt, ih (by omega), h1, if_true]
    exact this _ (Nat.le_refl _)
  intro fuel
  induction fuel with
  | zero =>
    intro listed φ tmps w hsz hc hcl hG hs
    refine ⟨?_, hdone listed φ tmps w hc hs⟩
    cases hr : Region.ready .any ops listed with
    | nil => rfl
    | cons i t =>
      exfalso
      have hm : i ∈ Region.ready .any ops listed := by rw [hr]; simp
      rw [mem_ready] at hm
      obtain ⟨h1, o, h2, _⟩ := hm
      have hlt : i < ops.size := (Array.getElem?_eq_some_iff.1 h2).1
      rw [getD_same (by omega)] at h1
      have h5 : listed.getD i false = true := cnt_zero hc i hlt
      rw [h1] at h5; cases h5
  | succ fuel ih =>
    intro listed φ tmps w hsz hc hcl hG hs
    refine ⟨fun hr => hdone listed φ tmps w (hready listed hsz hr) hs, fun j hj => ?_⟩
    rw [mem_ready] at hj
    obtain ⟨h1, o, h2, h3⟩ := hj
    have hlt : j < ops.size := (Array.getElem?_eq_some_iff.1 h2).1
    have hjc : j < cs.length := by rw [pl.len]; exact hlt
    rw [getD_same (by omega)] at h1
    have hcj : cs[j]? = some cs[j] := by simp [hjc]
    have hoj : cs[j].o = o := by have := pl.op j cs[j] hcj; rw [h2] at this; cases this; rfl
    have hbef : ∀ i ∈ cs[j].bef, listed.getD i false = true := by
      intro i hi
      obtain ⟨e, he, hb, h | ⟨c', hc', hi'⟩⟩ := pl.edge j cs[j] hcj i hi
      · subst h; exact h3 e (by rw [← hoj]; exact he) hb
      · exact hcl e.on c' hc' (h3 e (by rw [← hoj]; exact he) hb) i hi'
    refine pl.step (X := fun i => listed.getD i false) (X' := fun i => (listed.setIfInBounds j true).getD i false) hs hG hcl hcj h1 hbef (fun i => getD_true listed j i (by omega)) fun φ tmps w hs' hgj => ?_
    refine ih _ φ tmps w (by simpa using hsz) ?_ ?_ ?_ hs'
    · have := cnt_set (X := fun i => listed.getD i false) (X' := fun i => (listed.setIfInBounds j true).getD i false) (j := j) h1 (fun i => getD_true listed j i (by omega)) (m := ops.size)
      rw [if_pos hlt] at this
      omega
    · intro q cq hq hx i hi
      have hx2 : (if q = j then true else listed.getD q false) = true := by rw [← getD_true listed j q (by omega)]; exact hx
      have : (if i = j then true else listed.getD i false) = true := by
        by_cases e : i = j
        · rw [if_pos e]
        · rw [if_neg e]
          by_cases eq : q = j
          · subst eq; rw [hcj] at hq; cases hq; exact hbef i hi
          · rw [if_neg eq] at hx2; exact hcl q cq hq hx2 i hi
      rw [getD_true listed j i (by omega)]; exact this
    · intro q cq hq hx
      have hx2 : (if q = j then true else listed.getD q false) = true := by rw [← getD_true listed j q (by omega)]; exact hx
      by_cases e : q = j
      · subst e; rw [hcj] at hq; cases hq; exact hgj
      · rw [if_neg e] at hx2; exact hG q cq hq hx2

/-- A region that draws its order, told in the text's. -/
theorem WB_draw (hm : P.follows .mixedOrders = true) {id nx0 N : Nat} {ops : Array Oper} {env0 envF : Env} {H0 HF : Heap} {cs : List Cert}
    (pl : ∀ φ tmps w, St ρ c nx0 env0 H0 φ tmps w → Plan ρ P c.nt c.k nx0 N ops env0 H0 cs)
    (hE : ∀ k x, look envF k = some x → (cs.foldl (fun f c => upE c f) (look env0)) k = some x) (hH : ∀ n o, look HF n = some o → (cs.foldl (fun f c => upH c f) (look H0)) n = some o) (hN : ∀ (j : Nat) c, cs[j]? = some c → ∀ n o, look c.hT n = some o → n < N) (hEn : ∀ k x, look envF k = some x → k < c.nt ∨ (look env0 k).isSome = true) :
    WB ρ P c (.region id ops true) env0 nx0 H0 .normal envF N HF := by
  intro φ tmps w hs
  have pl := pl φ tmps w hs
  refine wp_region_any hm ?_
  have hs1 : St ρ c N env0 H0 φ tmps w.drew := (hs.same (w' := w.drew) rfl rfl rfl rfl).raise pl.nx
  have hfalse : ∀ i, (Array.replicate ops.size false).getD i false = false := by
    intro i
    simp only [Array.getD_eq_getD_getElem?, Array.getElem?_replicate]
    split <;> rfl
  have hnoneE : foldE (fun i => (Array.replicate ops.size false).getD i false) cs env0 = look env0 := by
    funext k
    have : ∀ (t : List Cert) (i : Nat) (f : Nat → Option MV), fold (α := Unit) upE (fun i => (Array.replicate ops.size false).getD i false) t i f = f := by
      intro t; induction t with
      | nil => intros; rfl
      | cons c t ih => intro i f; rw [fold, hfalse i]; exact ih _ _
    rw [foldE, this]
  have hnoneH : foldH (fun i => (Array.replicate ops.size false).getD i false) cs H0 = look H0 := by
    funext k
    have : ∀ (t : List Cert) (i : Nat) (f : Nat → Option MO), fold (α := Unit) upH (fun i => (Array.replicate ops.size false).getD i false) t i f = f := by
      intro t; induction t with
      | nil => intros; rfl
      | cons c t ih => intro i f; rw [fold, hfalse i]; exact ih _ _
    rw [foldH, this]
  have hcount : cnt (fun i => (Array.replicate ops.size false).getD i false) ops.size = ops.size := by
    have : ∀ m, cnt (fun i => (Array.replicate ops.size false).getD i false) m = m := by
      intro m; induction m with
      | zero => rfl
      | succ m ih =>
        have h1 := hfalse m
        simp only [cnt, ih, h1]
        rfl
    exact this _
  refine pl.run (fun φ tmps w hs => ?_) ops.size _ φ tmps w.drew (by simp) hcount (fun j c' _ hx => by rw [hfalse] at hx; cases hx) (fun j c' _ hx => by rw [hfalse] at hx; cases hx) ?_
  · refine ⟨rfl, rfl, φ, (hs.subEnv fun k x hk => ?_).subH fun n o hn => ?_⟩
    · have a := hE k x hk
      have b : k < c.nt := by
        rcases hEn k x hk with h | h
        · exact h
        · obtain ⟨y, hy⟩ := Option.isSome_iff_exists.1 h
          exact (pl.envB k y hy).2
      rw [look_listOf, if_pos b, foldE, fold_all]; exact a
    · have a := hH n o hn
      have a2 : foldH (fun _ => true) cs H0 n = some o := by rw [foldH, fold_all]; exact a
      have b : n < N := by
        rcases fold_source localH cs 0 _ a2 with h | ⟨i, ci, a1, _, _, a4⟩
        · have := (pl.heapB n o h).1; have := pl.nx; omega
        · exact hN i ci a1 n o a4
      rw [look_listOf, if_pos b]; exact a2
  · rw [hnoneE, hnoneH]
    refine (hs1.subEnv fun k x hk => ?_).subH fun n o hn => ?_
    · rw [look_listOf] at hk; split at hk
      · exact hk
      · cases hk
    · rw [look_listOf] at hn; split at hn
      · exact hn
      · cases hn
end
end
end Go.Proofs.YtnajikpdnccilaaGreat.Pv.M
