/- What is known of values and of memory, and how it goes on. -/
import Derived.Test.YtnajikpdnccilaaGreatPvMA
set_option linter.unusedVariables false
set_option linter.unusedSimpArgs false
namespace Go.Proofs.YtnajikpdnccilaaGreat.Pv.M
open Go

/-! ### The ways, read back -/
theorem ob_inv {α : Type} {o : Option α} {k : α → Bool} (h : ob o k = true) : ∃ a, o = some a ∧ k a = true := by
  cases o with
  | none => exact absurd h (by simp [ob])
  | some a => exact ⟨a, rfl, h⟩
theorem oc_inv {b k : Bool} (h : oc b k = true) : b = true ∧ k = true := by
  cases b with
  | false => exact absurd h (by simp [oc])
  | true => exact ⟨rfl, h⟩
theorem ow_inv {b t e : Bool} (h : ow b t e = true) : (b = true ∧ t = true) ∨ (b = false ∧ e = true) := by
  cases b with
  | false => exact .inr ⟨rfl, h⟩
  | true => exact .inl ⟨rfl, h⟩
theorem bo_some {α β : Type} {o : Option α} {k : α → Option β} {r : β} (h : bo o k = some r) : ∃ a, o = some a ∧ k a = some r := by
  cases o with
  | none => exact absurd h (by simp [bo])
  | some a => exact ⟨a, rfl, h⟩
theorem bi_some {α : Type} {b : Bool} {t : Option α} {r : α} (h : bi b t none = some r) : b = true ∧ t = some r := by
  cases b with
  | false => exact absurd h (by simp [bi])
  | true => exact ⟨rfl, h⟩
theorem onB_inv {a : MV} {t e : Bool} (h : onB a t e = true) : (a = .b true ∧ t = true) ∨ (a = .b false ∧ e = true) := by
  cases a with
  | b x => cases x with
    | true => exact .inl ⟨rfl, h⟩
    | false => exact .inr ⟨rfl, h⟩
  | _ => exact absurd h (by simp [onB])
theorem onN_inv {a : MV} {k : IntKind → Int → Bool} (h : onN a k = true) : ∃ i c, a = .n i c ∧ k i c = true := by
  cases a with
  | n i c => exact ⟨i, c, rfl, h⟩
  | _ => exact absurd h (by simp [onN])
theorem onI_inv {a : MV} {kn : IntKind → Int → Bool} {ka : IntKind → Int → List Int → Bool} {e : Bool} (h : onI a kn ka e = true) :
    (∃ i c, a = .n i c ∧ kn i c = true) ∨ (∃ i c l, a = .a i c l ∧ ka i c l = true) ∨ ((∀ i c, a ≠ .n i c) ∧ (∀ i c l, a ≠ .a i c l) ∧ e = true) := by
  cases a with
  | n i c => exact .inl ⟨i, c, rfl, h⟩
  | a i c l => exact .inr (.inl ⟨i, c, l, rfl, h⟩)
  | _ => exact .inr (.inr ⟨fun _ _ => by simp, fun _ _ _ => by simp, h⟩)
theorem onP_inv {a : MV} {k : Nat → Nat → Bool} (h : onP a k = true) : ∃ n off, a = .ptr n off ∧ k n off = true := by
  cases a with
  | ptr n off => exact ⟨n, off, rfl, h⟩
  | _ => exact absurd h (by simp [onP])
theorem onS_inv {a : MV} {ks : Nat → Nat → Nat → Nat → Option Nat → Bool} {kp : Nat → Nat → Bool} {kv : Value → Bool} (h : onS a ks kp kv = true) :
    (∃ sz n off l c, a = .sl sz n off l c ∧ ks sz n off l c = true) ∨ (∃ n off, a = .ptr n off ∧ kp n off = true) ∨ (∃ x, a = .v x ∧ kv x = true) := by
  cases a with
  | sl sz n off l c => exact .inl ⟨sz, n, off, l, c, rfl, h⟩
  | ptr n off => exact .inr (.inl ⟨n, off, rfl, h⟩)
  | v x => exact .inr (.inr ⟨x, rfl, h⟩)
  | _ => exact absurd h (by simp [onS])
theorem onA_inv {a : MV} {k : List MV → Bool} (h : onA a k = true) : ∃ cs, a = .agg cs ∧ k cs = true := by
  cases a with
  | agg cs => exact ⟨cs, rfl, h⟩
  | _ => exact absurd h (by simp [onA])
theorem onT_inv {a : MV} {k : List MV → Bool} (h : onT a k = true) : ∃ cs, a = .tup cs ∧ k cs = true := by
  cases a with
  | tup cs => exact ⟨cs, rfl, h⟩
  | _ => exact absurd h (by simp [onT])
theorem onC_inv {a : MV} {k : Nat → List MV → List MV → Bool} (h : onC a k = true) : ∃ f x y, a = .clo f x y ∧ k f x y = true := by
  cases a with
  | clo f x y => exact ⟨f, x, y, rfl, h⟩
  | _ => exact absurd h (by simp [onC])
theorem onM_inv {a : MV} {k : Nat → Bool} (h : onM a k = true) : ∃ n, a = .mp n ∧ k n = true := by
  cases a with
  | mp n => exact ⟨n, rfl, h⟩
  | _ => exact absurd h (by simp [onM])
theorem onF_inv {a : MV} {k : Nat → MV → Bool} (h : onF a k = true) : ∃ t x, a = .ifc t x ∧ k t x = true := by
  cases a with
  | ifc t x => exact ⟨t, x, rfl, h⟩
  | _ => exact absurd h (by simp [onF])
theorem onCells_inv {o : MO} {k : List MV → Bool} (h : onCells o k = true) : ∃ l, o = .cells l ∧ k l = true := by
  cases o with
  | cells l => exact ⟨l, rfl, h⟩
  | _ => exact absurd h (by simp [onCells])
theorem onMap_inv {o : MO} {k : List (MV × MV) → Bool} (h : onMap o k = true) : ∃ l, o = .map l ∧ k l = true := by
  cases o with
  | map l => exact ⟨l, rfl, h⟩
  | _ => exact absurd h (by simp [onMap])

/-! ### Lists -/
theorem look_nil {α : Type} (n : Nat) : look ([] : List (Nat × α)) n = none := rfl
theorem look_cons {α : Type} (p : Nat × α) (t : List (Nat × α)) (n : Nat) : look (p :: t) n = if p.1 = n then some p.2 else look t n := by
  show Bool.rec (motive := fun _ => Option α) (look t n) (some p.2) (Nat.beq p.1 n) = _
  by_cases h : p.1 = n
  · rw [if_pos h, show Nat.beq p.1 n = true by (rw [h]; exact Nat.beq_refl n)]
  · rw [if_neg h, show Nat.beq p.1 n = false by cases hb : Nat.beq p.1 n; rfl; exact absurd (Nat.eq_of_beq_eq_true hb) h]
theorem look_same {α : Type} (n : Nat) (x : α) (t : List (Nat × α)) : look ((n, x) :: t) n = some x := by rw [look_cons, if_pos rfl]
theorem look_ne {α : Type} {k n : Nat} (x : α) (t : List (Nat × α)) (h : k ≠ n) : look ((k, x) :: t) n = look t n := by rw [look_cons, if_neg h]
theorem nth_eq {α : Type} : ∀ (l : List α) (n : Nat), nth l n = l[n]?
  | [], _ => by simp [nth]
  | a :: l, 0 => rfl
  | a :: l, n + 1 => by
    show nth l n = _
    rw [nth_eq l n, List.getElem?_cons_succ]
theorem takeN_some {α : Type} : ∀ {n : Nat} {l r : List α}, takeN n l = some r → r = l.take n ∧ n ≤ l.length
  | 0, l, r, h => by
    have : some ([] : List α) = some r := h
    cases this; simp
  | n + 1, [], r, h => by
    have : (none : Option (List α)) = some r := h
    cases this
  | n + 1, a :: t, r, h => by
    have h : bo (takeN n t) (fun r => some (a :: r)) = some r := h
    obtain ⟨r0, h1, h2⟩ := bo_some h
    obtain ⟨h3, h4⟩ := takeN_some h1
    cases h2; subst h3
    exact ⟨by simp, by simpa using h4⟩
theorem dropN_eq {α : Type} : ∀ (n : Nat) (l : List α), dropN n l = l.drop n
  | 0, l => rfl
  | n + 1, [] => rfl
  | n + 1, a :: t => by
    show dropN n t = _
    rw [dropN_eq n t, List.drop_succ_cons]
theorem cut_some {α : Type} {l r : List α} {off n : Nat} (h : cut l off n = some r) : r = (l.drop off).take n ∧ r.length = n ∧ (n = 0 ∨ off + n ≤ l.length) := by
  unfold cut at h
  rw [dropN_eq] at h
  obtain ⟨h1, h2⟩ := takeN_some h
  rw [List.length_drop] at h2
  exact ⟨h1, by rw [h1]; simp; omega, by omega⟩
theorem over_some {α : Type} : ∀ {ys xs r : List α}, over ys xs = some r → r = ys ++ xs.drop ys.length ∧ ys.length ≤ xs.length
  | [], xs, r, h => by
    have : some xs = some r := h
    cases this; simp
  | y :: ys, [], r, h => by
    have : (none : Option (List α)) = some r := h
    cases this
  | y :: ys, x :: xs, r, h => by
    have h : bo (over ys xs) (fun r => some (y :: r)) = some r := h
    obtain ⟨r0, h1, h2⟩ := bo_some h
    obtain ⟨h3, h4⟩ := over_some h1
    cases h2; subst h3
    exact ⟨by simp, by simpa using h4⟩
theorem put_some {α : Type} : ∀ {n : Nat} {ys l r : List α}, put ys n l = some r → r = l.take n ++ ys ++ l.drop (n + ys.length) ∧ n + ys.length ≤ l.length
  | 0, ys, l, r, h => by
    obtain ⟨h1, h2⟩ := over_some (show over ys l = some r from h)
    exact ⟨by simp [h1], by omega⟩
  | n + 1, ys, [], r, h => by
    have : (none : Option (List α)) = some r := h
    cases this
  | n + 1, ys, x :: l, r, h => by
    have h : bo (put ys n l) (fun r => some (x :: r)) = some r := h
    obtain ⟨r0, h1, h2⟩ := bo_some h
    obtain ⟨h3, h4⟩ := put_some h1
    cases h2; subst h3
    refine ⟨?_, by simp; omega⟩
    rw [show n + 1 + ys.length = (n + ys.length) + 1 by omega]
    simp
theorem put_get {α : Type} {n : Nat} {ys l r : List α} (h : put ys n l = some r) (j : Nat) : r[j]? = if j < n then l[j]? else if j < n + ys.length then ys[j - n]? else l[j]? := by
  obtain ⟨h1, h2⟩ := put_some h
  subst h1
  by_cases a : j < n
  · rw [if_pos a, List.append_assoc, List.getElem?_append_left (by simp; omega), List.getElem?_take, if_pos a]
  · rw [if_neg a]
    by_cases b : j < n + ys.length
    · rw [if_pos b, List.append_assoc, List.getElem?_append_right (by simp; omega), List.getElem?_append_left (by simp; omega)]
      congr 1
      simp; omega
    · rw [if_neg b, List.append_assoc, List.getElem?_append_right (by simp; omega), List.getElem?_append_right (by simp; omega), List.getElem?_drop]
      congr 1
      simp; omega
theorem put_length {α : Type} {n : Nat} {ys l r : List α} (h : put ys n l = some r) : r.length = l.length := by
  obtain ⟨h1, h2⟩ := put_some h
  subst h1; simp; omega
theorem len_eq {α : Type} : ∀ (l : List α), len l = l.length
  | [] => rfl
  | a :: l => by
    show Nat.succ (len l) = _
    rw [len_eq l]; rfl
theorem app_eq {α : Type} : ∀ (l m : List α), app l m = l ++ m
  | [], m => rfl
  | a :: l, m => by
    show a :: app l m = _
    rw [app_eq l m]; rfl
theorem mapL_eq {α β : Type} (f : α → β) : ∀ (l : List α), mapL f l = l.map f
  | [] => rfl
  | a :: l => by
    show f a :: mapL f l = _
    rw [mapL_eq f l]; rfl
theorem rpt_eq {α : Type} (l : List α) : ∀ (n : Nat), rpt n l = (List.replicate n l).flatten
  | 0 => rfl
  | n + 1 => by
    show app l (rpt n l) = _
    rw [app_eq, rpt_eq l n, List.replicate_succ, List.flatten_cons]
theorem allB_inv {α : Type} {f : α → Bool} : ∀ {l : List α}, allB f l = true → ∀ a ∈ l, f a = true
  | [], _, a, h => by cases h
  | x :: t, h, a, ha => by
    have h : Bool.rec (motive := fun _ => Bool) false (allB f t) (f x) = true := h
    cases hx : f x with
    | false => rw [hx] at h; cases h
    | true =>
      rw [hx] at h
      rcases List.mem_cons.1 ha with e | e
      · subst e; exact hx
      · exact allB_inv h a e
theorem nilB_eq {α : Type} (l : List α) : nilB l = l.isEmpty := by cases l <;> rfl
theorem keq_inv {k j : IntKind} (h : keq k j = true) : k = j := by
  have := Nat.eq_of_beq_eq_true (show Nat.beq (kid k) (kid j) = true from h)
  cases k <;> cases j <;> first | rfl | exact absurd this (by decide)

/-! ### Values -/
/-- The sum that the variables make. -/
def dot (ρ : Nat → Int) : Nat → List Int → Int
  | _, [] => 0
  | i, a :: t => a * ρ i + dot ρ (i + 1) t

/-- Where a named row of cells lies: its block, from where on; how long the block is. -/
structure Ph where
  blk : Nat
  base : Nat
  size : Nat
  deriving Inhabited

inductive Rel (ρ : Nat → Int) (φ : Nat → Ph) (nx : Nat) : MV → Value → Prop where
  | v (x : Value) : Rel ρ φ nx (.v x) x
  | b (x : Bool) : Rel ρ φ nx (.b x) (.bool x)
  | n (k : IntKind) (c : Int) : Rel ρ φ nx (.n k c) (.int k c)
  | a (k : IntKind) (c : Int) (l : List Int) : Rel ρ φ nx (.a k c l) (.int k (c + dot ρ 0 l))
  | ptr {n off : Nat} : n < nx → Rel ρ φ nx (.ptr n off) (.pointer (some ⟨(φ n).blk, (φ n).base + off, none⟩))
  | sl {sz n off l : Nat} {cap : Option Nat} {A : Addr} {c : Nat} : n < nx → l ≤ c → (∀ d, cap = some d → c = d) → (φ n).base + off + c * sz ≤ (φ n).size → (c ≠ 0 → A = ⟨(φ n).blk, (φ n).base + off, none⟩) →
      Rel ρ φ nx (.sl sz n off l cap) (.slice (some A) l c)
  | agg (cs : List MV) (vs : Array Value) : vs.size = cs.length → (∀ (i : Nat) u, vs[i]? = some u → one u = true) →
      (∀ (i : Nat) c u, cs[i]? = some c → vs[i]? = some u → Rel ρ φ nx c u) → Rel ρ φ nx (.agg cs) (.agg vs)
  | tup (cs : List MV) (vs : Array Value) : vs.size = cs.length → (∀ (i : Nat) c u, cs[i]? = some c → vs[i]? = some u → Rel ρ φ nx c u) → Rel ρ φ nx (.tup cs) (.tuple vs)
  | clo (f : Nat) (as bs : List MV) (xs ys : Array Value) : xs.size = as.length → (∀ (i : Nat) c u, as[i]? = some c → xs[i]? = some u → Rel ρ φ nx c u) → ys.size = bs.length →
      (∀ (i : Nat) c u, bs[i]? = some c → ys[i]? = some u → Rel ρ φ nx c u) → Rel ρ φ nx (.clo f as bs) (.func (.func f) xs ys)
  | mp {n : Nat} : n < nx → Rel ρ φ nx (.mp n) (.map (some (φ n).blk))
  | ifc (t : Nat) (x : MV) (u : Value) : Rel ρ φ nx x u → Rel ρ φ nx (.ifc t x) (.iface t u)

variable {ρ : Nat → Int}

theorem Rel.step {φ φ' : Nat → Ph} {nx nx' : Nat} (hφ : ∀ n, n < nx → φ' n = φ n) (hn : nx ≤ nx') : ∀ {x v}, Rel ρ φ nx x v → Rel ρ φ' nx' x v := by
  intro x v h
  induction h with
  | v x => exact .v x
  | b x => exact .b x
  | n k c => exact .n k c
  | a k c l => exact .a k c l
  | @ptr n off h => rw [← hφ n h]; exact .ptr (Nat.lt_of_lt_of_le h hn)
  | @sl sz n off l cap A c h h1 h2 h3 h4 =>
    rw [← hφ n h] at h3 h4
    exact .sl (Nat.lt_of_lt_of_le h hn) h1 h2 h3 h4
  | agg cs vs hs ho _ ih => exact .agg cs vs hs ho ih
  | tup cs vs hs _ ih => exact .tup cs vs hs ih
  | clo f as bs xs ys h1 _ h2 _ i1 i2 => exact .clo f as bs xs ys h1 i1 h2 i2
  | @mp n h => rw [← hφ n h]; exact .mp (Nat.lt_of_lt_of_le h hn)
  | ifc t x u _ ih => exact .ifc t x u ih

theorem Rel.one {φ : Nat → Ph} {nx : Nat} {x : MV} {v : Value} (h : Rel ρ φ nx x v) (h1 : oneM x = true) : Pv.one v = true := by
  cases h with
  | v x => exact h1
  | agg => exact absurd h1 (by simp [oneM])
  | tup => exact absurd h1 (by simp [oneM])
  | _ => rfl

/-- The cells of a value that may be kept. -/
theorem Rel.cells {φ : Nat → Ph} {nx : Nat} {x : MV} {v : Value} (h : Rel ρ φ nx x v) (h1 : ∀ c ∈ cellsOf x, oneM c = true) :
    v.cells.size = (cellsOf x).length ∧ ∀ (i : Nat) c, (cellsOf x)[i]? = some c → ∃ u, v.cells[i]? = some u ∧ Pv.one u = true ∧ Rel ρ φ nx c u := by
  have plain : cellsOf x = [x] → v.cells.size = (cellsOf x).length ∧ ∀ (i : Nat) c, (cellsOf x)[i]? = some c → ∃ u, v.cells[i]? = some u ∧ Pv.one u = true ∧ Rel ρ φ nx c u := by
    intro e
    have ho := h.one (h1 x (by rw [e]; simp))
    rw [e, cells_of_one ho]
    refine ⟨rfl, fun i c hc => ?_⟩
    cases i with
    | zero => simp at hc; subst hc; exact ⟨v, rfl, ho, h⟩
    | succ i => simp at hc
  cases h with
  | agg cs vs hs ho hr =>
    refine ⟨hs, fun i c hc => ?_⟩
    have hc : cs[i]? = some c := hc
    have hlt : i < vs.size := by rw [hs]; exact (List.getElem?_eq_some_iff.1 hc).1
    exact ⟨vs[i], by simp [Value.cells, hlt], ho i _ (by simp [hlt]), hr i c _ hc (by simp [hlt])⟩
  | _ => exact plain rfl

/-- What is known of an object. -/
def ObjOk (ρ : Nat → Int) (φ : Nat → Ph) (nx : Nat) (w : World) (n : Nat) : MO → Prop
  | .cells l => ∃ arr ty, w.heap[(φ n).blk]? = some (.cells arr ty (0, 0)) ∧ arr.size = (φ n).size ∧ ∀ (i : Nat) c, l[i]? = some c → ∃ u, arr[(φ n).base + i]? = some u ∧ Pv.one u = true ∧ Rel ρ φ nx c u
  | .map es => ∃ ents clock, w.heap[(φ n).blk]? = some (.map ents clock) ∧ ents.size = es.length ∧ ∀ (i : Nat) e, es[i]? = some e → ∃ m, ents[i]? = some m ∧ Rel ρ φ nx e.1 m.key ∧ Rel ρ φ nx e.2 m.val
  | .dead => True

theorem ObjOk.step {φ φ' : Nat → Ph} {nx nx' : Nat} {w w' : World} (hφ : ∀ n, n < nx → φ' n = φ n) (hn : nx ≤ nx') {n : Nat} (hlt : n < nx) {o : MO}
    (hb : o ≠ .dead → w'.heap[(φ n).blk]? = w.heap[(φ n).blk]?) (h : ObjOk ρ φ nx w n o) : ObjOk ρ φ' nx' w' n o := by
  cases o with
  | cells l =>
    obtain ⟨arr, ty, h1, h2, h3⟩ := h
    refine ⟨arr, ty, by rw [hφ n hlt, hb (by simp)]; exact h1, by rw [hφ n hlt]; exact h2, fun i c hc => ?_⟩
    obtain ⟨u, a, b, d⟩ := h3 i c hc
    exact ⟨u, by rw [hφ n hlt]; exact a, b, d.step hφ hn⟩
  | map es =>
    obtain ⟨ents, clock, h1, h2, h3⟩ := h
    refine ⟨ents, clock, by rw [hφ n hlt, hb (by simp)]; exact h1, h2, fun i e he => ?_⟩
    obtain ⟨m, a, b, d⟩ := h3 i e he
    exact ⟨m, a, b.step hφ hn, d.step hφ hn⟩
  | dead => trivial

theorem ObjOk.lt {φ : Nat → Ph} {nx : Nat} {w : World} {n : Nat} {o : MO} (h : ObjOk ρ φ nx w n o) (hd : o ≠ .dead) : (φ n).blk < w.heap.size := by
  have aux : ∀ {b : Nat} {x : Go.Obj}, w.heap[b]? = some x → b < w.heap.size := by
    intro b x hx
    rcases Nat.lt_or_ge b w.heap.size with h | h
    · exact h
    · rw [Array.getElem?_eq_none h] at hx; cases hx
  cases o with
  | cells l => obtain ⟨arr, ty, h1, _⟩ := h; exact aux h1
  | map es => obtain ⟨ents, clock, h1, _⟩ := h; exact aux h1
  | dead => exact absurd rfl hd

/-- A block that is one's own. -/
def Own (φ : Nat → Ph) (H : Heap) (b : Nat) : Prop := ∃ n o, look H n = some o ∧ o ≠ .dead ∧ (φ n).blk = b

structure Ok (ρ : Nat → Int) (φ : Nat → Ph) (nx : Nat) (H : Heap) (w : World) : Prop where
  obj : ∀ n o, look H n = some o → n < nx ∧ ObjOk ρ φ nx w n o
  dis : ∀ n m o o', look H n = some o → look H m = some o' → n ≠ m → o ≠ .dead → o' ≠ .dead → (φ n).blk ≠ (φ m).blk

/-- What a run may have turned: what it owned, or what is new. -/
structure Ext (w w' : World) (O O' : Nat → Prop) : Prop where
  os : w'.os = w.os
  tape : w'.tape = w.tape
  output : w'.output = w.output
  size : w.heap.size ≤ w'.heap.size
  blk : ∀ b, b < w.heap.size → ¬ O b → w'.heap[b]? = w.heap[b]?
  own : ∀ b, b < w.heap.size → O' b → O b

theorem Ext.refl (w : World) (O : Nat → Prop) : Ext w w O O := ⟨rfl, rfl, rfl, Nat.le_refl _, fun _ _ _ => rfl, fun _ _ h => h⟩
theorem Ext.trans {w w1 w2 : World} {O O1 O2 : Nat → Prop} (h : Ext w w1 O O1) (k : Ext w1 w2 O1 O2) : Ext w w2 O O2 where
  os := k.os.trans h.os
  tape := k.tape.trans h.tape
  output := k.output.trans h.output
  size := Nat.le_trans h.size k.size
  blk b hb hO := by rw [k.blk b (Nat.lt_of_lt_of_le hb h.size) (fun ho => hO (h.own b hb ho)), h.blk b hb hO]
  own b hb ho := h.own b hb (k.own b (Nat.lt_of_lt_of_le hb h.size) ho)

structure Ctx where
  w0 : World
  O0 : Nat → Prop
  k : Nat
  φ0 : Nat → Ph
  nt : Nat

structure St (ρ : Nat → Int) (c : Ctx) (nx : Nat) (env : Env) (H : Heap) (φ : Nat → Ph) (tmps : Array Value) (w : World) : Prop where
  ok : Ok ρ φ nx H w
  env : ∀ k x, look env k = some x → ∃ v, tmps[k]? = some v ∧ Rel ρ φ nx x v
  ext : Ext c.w0 w c.O0 (Own φ H)
  keep : c.k ≤ nx ∧ ∀ n, n < c.k → φ n = c.φ0 n
  size : tmps.size = c.nt

section
variable {c : Ctx} {nx nx' : Nat} {env : Env} {H H' : Heap} {φ φ' : Nat → Ph} {tmps : Array Value} {w w' : World}
theorem St.next (h : St ρ c nx env H φ tmps w) (hφ : ∀ n, n < nx → φ' n = φ n) (hn : nx ≤ nx') (hok : Ok ρ φ' nx' H' w') (he : Ext w w' (Own φ H) (Own φ' H')) : St ρ c nx' env H' φ' tmps w' where
  ok := hok
  env k pv hk := by
    obtain ⟨v, h1, h2⟩ := h.env k pv hk
    exact ⟨v, h1, h2.step hφ hn⟩
  ext := h.ext.trans he
  keep := ⟨Nat.le_trans h.keep.1 hn, fun n hk => by rw [hφ n (Nat.lt_of_lt_of_le hk h.keep.1)]; exact h.keep.2 n hk⟩
  size := h.size

theorem St.put (h : St ρ c nx env H φ tmps w) {x : MV} {v : Value} {d : Nat} (hr : Rel ρ φ nx x v) (hd : d < c.nt) : St ρ c nx ((d, x) :: env) H φ (tmps.setIfInBounds d v) w where
  ok := h.ok
  env k p hk := by
    by_cases e : d = k
    · subst e
      rw [look_same] at hk
      cases hk
      exact ⟨v, by simp [h.size, hd], hr⟩
    · rw [look_ne _ _ e] at hk
      obtain ⟨u, h1, h2⟩ := h.env k p hk
      exact ⟨u, by rw [Array.getElem?_setIfInBounds]; simp [e, h1], h2⟩
  ext := h.ext
  keep := h.keep
  size := by simp [h.size]

def updM (φ : Nat → Ph) (n : Nat) (p : Ph) : Nat → Ph := fun m => if m = n then p else φ m
theorem updM_same (φ : Nat → Ph) (n : Nat) (p : Ph) : updM φ n p n = p := by simp [updM]
theorem updM_ne (φ : Nat → Ph) {n m : Nat} (p : Ph) (h : m ≠ n) : updM φ n p m = φ m := by simp [updM, h]
theorem updM_self {φ : Nat → Ph} {n : Nat} : updM φ n (φ n) = φ := by
  funext m; unfold updM; split
  · rename_i h; rw [h]
  · rfl

/-- Fewer names. -/
theorem St.sub (h : St ρ c nx env H φ tmps w) (hl : ∀ m o, look H' m = some o → o ≠ .dead → look H m = some o) (hd : ∀ m, look H' m = some .dead → m < nx) : St ρ c nx env H' φ tmps w := by
  have hext : Ext w w (Own φ H) (Own φ H') := by
    refine ⟨rfl, rfl, rfl, Nat.le_refl _, fun b hb _ => rfl, ?_⟩
    rintro b hlt ⟨m, o, h1, h2, h3⟩
    exact ⟨m, o, hl m o h1 h2, h2, h3⟩
  refine h.next (fun _ _ => rfl) (Nat.le_refl _) ⟨fun m o hm => ?_, fun a b o1 o2 h1 h2 hne d1 d2 => h.ok.dis a b o1 o2 (hl _ _ h1 d1) (hl _ _ h2 d2) hne d1 d2⟩ hext
  by_cases e : o = .dead
  · subst e; exact ⟨hd m hm, trivial⟩
  · exact h.ok.obj m o (hl m o hm e)

/-- A new block, of a new name. -/
theorem St.push (h : St ρ c nx env H φ tmps w) {o : MO} {p : Ph} {x : Go.Obj} (hh : w'.heap = w.heap.push x) (ho : w'.os = w.os) (ht : w'.tape = w.tape) (hu : w'.output = w.output) (hb : p.blk = w.heap.size)
    (hs : ObjOk ρ (updM φ nx p) (nx + 1) w' nx o) : St ρ c (nx + 1) env ((nx, o) :: H) (updM φ nx p) tmps w' := by
  have hφ : ∀ n, n < nx → updM φ nx p n = φ n := fun n hn => updM_ne _ _ (by omega)
  have hold : ∀ b, b < w.heap.size → w'.heap[b]? = w.heap[b]? := fun b hb => by rw [hh, Array.getElem?_push]; rw [if_neg (by omega)]
  have hext : Ext w w' (Own φ H) (Own (updM φ nx p) ((nx, o) :: H)) := by
    refine ⟨ho, ht, hu, by rw [hh]; simp, fun b hb _ => hold b hb, ?_⟩
    rintro b hlt ⟨m, o', h1, h2, h3⟩
    by_cases e : nx = m
    · subst e; rw [updM_same, hb] at h3; omega
    · rw [look_ne _ _ e] at h1
      rw [hφ m (h.ok.obj m o' h1).1] at h3
      exact ⟨m, o', h1, h2, h3⟩
  refine h.next hφ (Nat.le_succ _) ⟨fun n o' hk => ?_, fun n m o1 o2 h1 h2 hne n1 n2 => ?_⟩ hext
  · by_cases e : nx = n
    · subst e; rw [look_same] at hk; cases hk; exact ⟨Nat.lt_succ_self _, hs⟩
    · rw [look_ne _ _ e] at hk
      obtain ⟨k1, k2⟩ := h.ok.obj n o' hk
      exact ⟨by omega, k2.step hφ (Nat.le_succ _) k1 fun hf => hold _ (k2.lt hf)⟩
  · by_cases e1 : nx = n
    · by_cases e2 : nx = m
      · omega
      · rw [look_ne _ _ e2] at h2
        obtain ⟨k1, k2⟩ := h.ok.obj m o2 h2
        rw [hφ m k1, ← e1, updM_same, hb]
        have := k2.lt n2
        omega
    · rw [look_ne _ _ e1] at h1
      obtain ⟨k1, k2⟩ := h.ok.obj n o1 h1
      rw [hφ n k1]
      by_cases e2 : nx = m
      · rw [← e2, updM_same, hb]
        have := k2.lt n1
        omega
      · rw [look_ne _ _ e2] at h2
        rw [hφ m (h.ok.obj m o2 h2).1]
        exact h.ok.dis n m o1 o2 h1 h2 hne n1 n2

/-- A block of its own is written. -/
theorem St.write (h : St ρ c nx env H φ tmps w) {n : Nat} {o o' : MO} (hn : look H n = some o) (hd : o ≠ .dead) (ho : w'.os = w.os) (ht : w'.tape = w.tape) (hu : w'.output = w.output) (hz : w'.heap.size = w.heap.size)
    (hold : ∀ b, b ≠ (φ n).blk → w'.heap[b]? = w.heap[b]?) (hs : ObjOk ρ φ nx w' n o') : St ρ c nx env ((n, o') :: H) φ tmps w' := by
  have hnx := (h.ok.obj n o hn).1
  have hext : Ext w w' (Own φ H) (Own φ ((n, o') :: H)) := by
    refine ⟨ho, ht, hu, by omega, fun b hb hO => hold b fun e => hO ⟨n, o, hn, hd, e.symm⟩, ?_⟩
    rintro b hlt ⟨m, o1, h1, h2, h3⟩
    by_cases e : n = m
    · subst e; exact ⟨n, o, hn, hd, h3⟩
    · rw [look_ne _ _ e] at h1; exact ⟨m, o1, h1, h2, h3⟩
  refine h.next (fun _ _ => rfl) (Nat.le_refl _) ⟨fun m o1 hk => ?_, fun a b o1 o2 h1 h2 hne n1 n2 => ?_⟩ hext
  · by_cases e : n = m
    · subst e; rw [look_same] at hk; cases hk; exact ⟨hnx, hs⟩
    · rw [look_ne _ _ e] at hk
      obtain ⟨k1, k2⟩ := h.ok.obj m o1 hk
      exact ⟨k1, k2.step (fun _ _ => rfl) (Nat.le_refl _) k1 fun hf => hold _ (h.ok.dis m n o1 o hk hn (fun e' => e e'.symm) hf hd)⟩
  · by_cases e1 : n = a
    · by_cases e2 : n = b
      · omega
      · rw [look_ne _ _ e2] at h2
        rw [← e1]
        exact h.ok.dis n b o o2 hn h2 e2 hd n2
    · rw [look_ne _ _ e1] at h1
      by_cases e2 : n = b
      · rw [← e2]
        exact h.ok.dis a n o1 o h1 hn (fun e => e1 e.symm) n1 hd
      · rw [look_ne _ _ e2] at h2
        exact h.ok.dis a b o1 o2 h1 h2 hne n1 n2

/-- A block goes on under a new name, from a cell of it on; the old name is no more. -/
theorem St.anew (h : St ρ c nx env H φ tmps w) {n off : Nat} {l : List MV} (hn : look H n = some (.cells l)) :
    St ρ c (nx + 1) env ((nx, .cells (l.drop off)) :: (n, .dead) :: H) (updM φ nx ⟨(φ n).blk, (φ n).base + off, (φ n).size⟩) tmps w := by
  have hnx := (h.ok.obj n _ hn).1
  have hφ : ∀ m, m < nx → updM φ nx ⟨(φ n).blk, (φ n).base + off, (φ n).size⟩ m = φ m := fun m hm => updM_ne _ _ (by omega)
  have hcase : ∀ m o1, look ((nx, MO.cells (l.drop off)) :: (n, .dead) :: H) m = some o1 → o1 ≠ .dead → (m = nx ∧ o1 = .cells (l.drop off)) ∨ (m ≠ n ∧ m ≠ nx ∧ look H m = some o1) := by
    intro m o1 h1 h2
    by_cases e : nx = m
    · subst e; rw [look_same] at h1; cases h1; exact .inl ⟨rfl, rfl⟩
    · rw [look_ne _ _ e] at h1
      by_cases e2 : n = m
      · subst e2; rw [look_same] at h1; cases h1; exact absurd rfl h2
      · rw [look_ne _ _ e2] at h1; exact .inr ⟨fun e => e2 e.symm, fun e' => e e'.symm, h1⟩
  have hext : Ext w w (Own φ H) (Own (updM φ nx ⟨(φ n).blk, (φ n).base + off, (φ n).size⟩) ((nx, .cells (l.drop off)) :: (n, .dead) :: H)) := by
    refine ⟨rfl, rfl, rfl, Nat.le_refl _, fun b hb _ => rfl, ?_⟩
    rintro b hlt ⟨m, o1, h1, h2, h3⟩
    rcases hcase m o1 h1 h2 with ⟨rfl, rfl⟩ | ⟨a1, a2, a3⟩
    · rw [updM_same] at h3; exact ⟨n, _, hn, by simp, h3⟩
    · rw [hφ m (h.ok.obj m o1 a3).1] at h3; exact ⟨m, o1, a3, h2, h3⟩
  refine h.next hφ (Nat.le_succ _) ⟨fun m o1 hk => ?_, fun a b o1 o2 h1 h2 hne n1 n2 => ?_⟩ hext
  · by_cases e : o1 = .dead
    · subst e
      refine ⟨?_, trivial⟩
      by_cases e1 : nx = m
      · omega
      · rw [look_ne _ _ e1] at hk
        by_cases e2 : n = m
        · omega
        · rw [look_ne _ _ e2] at hk; have := (h.ok.obj m _ hk).1; omega
    · rcases hcase m o1 hk e with ⟨rfl, rfl⟩ | ⟨a1, a2, a3⟩
      · refine ⟨Nat.lt_succ_self _, ?_⟩
        obtain ⟨arr, ty, b1, b2, b3⟩ := (h.ok.obj n _ hn).2
        refine ⟨arr, ty, by rw [updM_same]; exact b1, by rw [updM_same]; exact b2, fun i cc hc => ?_⟩
        rw [List.getElem?_drop] at hc
        obtain ⟨u, d1, d2, d3⟩ := b3 (off + i) cc hc
        exact ⟨u, by rw [updM_same]; simp only [Nat.add_assoc]; exact d1, d2, d3.step hφ (Nat.le_succ _)⟩
      · obtain ⟨k1, k2⟩ := h.ok.obj m o1 a3
        exact ⟨by omega, k2.step hφ (Nat.le_succ _) k1 fun _ => rfl⟩
  · rcases hcase a o1 h1 n1 with ⟨rfl, rfl⟩ | ⟨a1, a2, a3⟩
    · rcases hcase b o2 h2 n2 with ⟨rfl, rfl⟩ | ⟨b1, b2, b3⟩
      · exact absurd rfl hne
      · rw [updM_same, hφ b (h.ok.obj b o2 b3).1]
        exact h.ok.dis n b _ o2 hn b3 (fun e => b1 e.symm) (by simp) n2
    · rw [hφ a (h.ok.obj a o1 a3).1]
      rcases hcase b o2 h2 n2 with ⟨rfl, rfl⟩ | ⟨b1, b2, b3⟩
      · rw [updM_same]
        exact h.ok.dis a n o1 _ a3 hn a1 n1 (by simp)
      · rw [hφ b (h.ok.obj b o2 b3).1]
        exact h.ok.dis a b o1 o2 a3 b3 hne n1 n2
end
end Go.Proofs.YtnajikpdnccilaaGreat.Pv.M
