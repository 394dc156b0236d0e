/- Rules: runs that are told ahead, for all that their variables may be. -/
import Derived.Test.YtnajikpdnccilaaGreatPvMH
set_option linter.unusedVariables false
set_option linter.unusedSimpArgs false
namespace Go.Proofs.YtnajikpdnccilaaGreat.Pv.M
open Go

/-! ### The same -/
theorem eqX_ok {a b : Value} (h : eqX a b = true) : a = b := by
  unfold eqX at h
  split at h <;> first | rfl | (simp at h; done) | skip
  · simp at h; rw [h]
  · simp only [Bool.and_eq_true] at h; rw [Nat.eq_of_beq_eq_true h.1, Nat.eq_of_beq_eq_true h.2]
  · rename_i s t
    have e : s.data = t.data := by
      have : s.data.toList = t.data.toList := by simpa using h
      exact Array.toList_inj.1 this
    cases s; cases t; simp at e; rw [e]
theorem nilB_nil {α : Type} {l : List α} (h : nilB l = true) : l = [] := by cases l with
  | nil => rfl
  | cons x t => cases (show false = true from h)
theorem int_rel {ρ : Nat → Int} {φ : Nat → Ph} {nx : Nat} {k : IntKind} {c : Int} {l : List Int} {u : Value} : Rel ρ φ nx (.a k c l) u ↔ u = .int k (c + dot ρ 0 l) := by
  constructor
  · intro h; cases h; rfl
  · rintro rfl; exact .a k c l
theorem num_rel {ρ : Nat → Int} {φ : Nat → Ph} {nx : Nat} {k : IntKind} {c : Int} {u : Value} : Rel ρ φ nx (.n k c) u ↔ u = .int k c := by
  constructor
  · intro h; cases h; rfl
  · rintro rfl; exact .n k c
theorem mk_iff {ρ : Nat → Int} {φ : Nat → Ph} {nx : Nat} {k : IntKind} {c : Int} {l : List Int} {u : Value} : Rel ρ φ nx (mk k c l) u ↔ u = .int k (c + dot ρ 0 l) := by
  unfold mk
  cases hz : zeroL l with
  | true => rw [cond_true, num_rel, dot_zero 0 hz, Int.add_zero]
  | false => rw [cond_false, int_rel]
section
variable {ρ : Nat → Int} {φ : Nat → Ph} {nx : Nat}
abbrev Alike (ρ : Nat → Int) (φ : Nat → Ph) (nx : Nat) (ρ' : Nat → Int) (a b : MV) : Prop := ∀ u, Rel ρ φ nx a u ↔ Rel ρ' φ nx b u
theorem eqK_ok {k : IntKind} {c : Int} {l : List Int} {b : MV} (h : eqK k c l b = true) : ∀ u, Rel ρ φ nx b u ↔ u = .int k (c + dot ρ 0 l) := by
  intro u
  cases b with
  | n j d =>
    obtain ⟨h1, h⟩ := oc_inv (show oc (keq k j) (oc (ieq c d) (zeroL l)) = true from h)
    obtain ⟨h2, h3⟩ := oc_inv h
    rw [ieq_eq] at h2
    rw [num_rel, ← keq_inv h1, ← of_decide_eq_true h2, dot_zero 0 h3, Int.add_zero]
  | a j d m =>
    obtain ⟨h1, h⟩ := oc_inv (show oc (keq k j) (oc (ieq c d) (zeroL (addL l (negL m)))) = true from h)
    obtain ⟨h2, h3⟩ := oc_inv h
    rw [ieq_eq] at h2
    have := dot_zero (ρ := ρ) 0 h3
    rw [dot_add, dot_neg] at this
    rw [int_rel, ← keq_inv h1, ← of_decide_eq_true h2, show dot ρ 0 m = dot ρ 0 l from by omega]
  | _ => cases (show false = true from h)
/-- Rows alike, cell by cell. -/
theorem row_iff {ρ ρ' : Nat → Int} {cs ds : List MV} (hl : cs.length = ds.length) (h : ∀ (i : Nat) c d, cs[i]? = some c → ds[i]? = some d → Alike ρ φ nx ρ' c d) {vs : Array Value} :
    (vs.size = cs.length ∧ ∀ (i : Nat) c u, cs[i]? = some c → vs[i]? = some u → Rel ρ φ nx c u) ↔ (vs.size = ds.length ∧ ∀ (i : Nat) c u, ds[i]? = some c → vs[i]? = some u → Rel ρ' φ nx c u) := by
  constructor
  · rintro ⟨h1, h2⟩
    refine ⟨by omega, fun i d u hd hu => ?_⟩
    have hlt : i < cs.length := by have := (List.getElem?_eq_some_iff.1 hd).1; omega
    exact (h i cs[i] d (by simp [hlt]) hd u).1 (h2 i cs[i] u (by simp [hlt]) hu)
  · rintro ⟨h1, h2⟩
    refine ⟨by omega, fun i c u hc hu => ?_⟩
    have hlt : i < ds.length := by have := (List.getElem?_eq_some_iff.1 hc).1; omega
    exact (h i c ds[i] hc (by simp [hlt]) u).2 (h2 i ds[i] u (by simp [hlt]) hu)
theorem agg_alike {ρ ρ' : Nat → Int} {cs ds : List MV} (hl : cs.length = ds.length) (h : ∀ (i : Nat) c d, cs[i]? = some c → ds[i]? = some d → Alike ρ φ nx ρ' c d) : Alike ρ φ nx ρ' (.agg cs) (.agg ds) := by
  intro u
  constructor
  · intro hr; cases hr with
    | agg _ vs h1 h2 h3 => obtain ⟨a, b⟩ := (row_iff hl h).1 ⟨h1, h3⟩; exact .agg ds vs a h2 b
  · intro hr; cases hr with
    | agg _ vs h1 h2 h3 => obtain ⟨a, b⟩ := (row_iff hl h).2 ⟨h1, h3⟩; exact .agg cs vs a h2 b
theorem tup_alike {ρ ρ' : Nat → Int} {cs ds : List MV} (hl : cs.length = ds.length) (h : ∀ (i : Nat) c d, cs[i]? = some c → ds[i]? = some d → Alike ρ φ nx ρ' c d) : Alike ρ φ nx ρ' (.tup cs) (.tup ds) := by
  intro u
  constructor
  · intro hr; cases hr with
    | tup _ vs h1 h3 => obtain ⟨a, b⟩ := (row_iff hl h).1 ⟨h1, h3⟩; exact .tup ds vs a b
  · intro hr; cases hr with
    | tup _ vs h1 h3 => obtain ⟨a, b⟩ := (row_iff hl h).2 ⟨h1, h3⟩; exact .tup cs vs a b
theorem clo_alike {ρ ρ' : Nat → Int} {f : Nat} {cs ds as bs : List MV} (hl : cs.length = ds.length) (h : ∀ (i : Nat) c d, cs[i]? = some c → ds[i]? = some d → Alike ρ φ nx ρ' c d) (hl2 : as.length = bs.length) (h2 : ∀ (i : Nat) c d, as[i]? = some c → bs[i]? = some d → Alike ρ φ nx ρ' c d) :
    Alike ρ φ nx ρ' (.clo f cs as) (.clo f ds bs) := by
  intro u
  constructor
  · intro hr; cases hr with
    | clo _ _ _ xs ys h1 h3 h4 h5 => obtain ⟨a, b⟩ := (row_iff hl h).1 ⟨h1, h3⟩; obtain ⟨a', b'⟩ := (row_iff hl2 h2).1 ⟨h4, h5⟩; exact .clo f ds bs xs ys a b a' b'
  · intro hr; cases hr with
    | clo _ _ _ xs ys h1 h3 h4 h5 => obtain ⟨a, b⟩ := (row_iff hl h).2 ⟨h1, h3⟩; obtain ⟨a', b'⟩ := (row_iff hl2 h2).2 ⟨h4, h5⟩; exact .clo f cs as xs ys a b a' b'
theorem ifc_alike {ρ ρ' : Nat → Int} {t : Nat} {x y : MV} (h : Alike ρ φ nx ρ' x y) : Alike ρ φ nx ρ' (.ifc t x) (.ifc t y) := by
  intro u
  constructor
  · intro hr; cases hr with
    | ifc _ _ v h1 => exact .ifc t y v ((h v).1 h1)
  · intro hr; cases hr with
    | ifc _ _ v h1 => exact .ifc t x v ((h v).2 h1)
theorem eqV_agg : ∀ (cs ds : List MV), eqV (.agg cs) (.agg ds) = eqL cs ds
  | [], ds => rfl
  | x :: t, [] => rfl
  | x :: t, y :: m => by
    show oc (eqV x y) (eqV (.agg t) (.agg m)) = oc (eqV x y) (eqL t m)
    rw [eqV_agg t m]
theorem eqV_ok (a : MV) : ∀ b, eqV a b = true → Alike ρ φ nx ρ a b := by
  refine @MV.rec (fun a => ∀ b, eqV a b = true → Alike ρ φ nx ρ a b) (fun l => ∀ m, eqL l m = true → l.length = m.length ∧ ∀ (i : Nat) c d, l[i]? = some c → m[i]? = some d → Alike ρ φ nx ρ c d) ?_ ?_ ?_ ?_ ?_ ?_ ?_ ?_ ?_ ?_ ?_ ?_ ?_ a
  · intro x b h
    rcases onS_inv (show onS b _ _ _ = true from h) with ⟨_, _, _, _, _, _, h⟩ | ⟨_, _, _, h⟩ | ⟨y, rfl, h⟩
    · cases h
    · cases h
    · rw [eqX_ok h]; exact fun u => Iff.rfl
  · intro x b h
    rcases onB_inv (show onB b x (not x) = true from h) with ⟨e, hx⟩ | ⟨e, hx⟩
    · rw [e, hx]; exact fun u => Iff.rfl
    · have e2 : x = false := by simpa using hx
      rw [e, e2]; exact fun u => Iff.rfl
  · intro k c b h u
    rw [eqK_ok (show eqK k c [] b = true from h) u, num_rel]; simp [dot]
  · intro k c l b h u
    rw [eqK_ok (show eqK k c l b = true from h) u, int_rel]
  · intro n o b h
    obtain ⟨m, p, rfl, h⟩ := onP_inv (show onP b _ = true from h)
    obtain ⟨h1, h2⟩ := oc_inv h
    rw [Nat.eq_of_beq_eq_true h1, Nat.eq_of_beq_eq_true h2]; exact fun u => Iff.rfl
  · intro sz n o l c b h
    rcases onS_inv (show onS b _ _ _ = true from h) with ⟨sz', n', o', l', c', rfl, h⟩ | ⟨_, _, _, h⟩ | ⟨y, _, h⟩
    · obtain ⟨h1, h⟩ := oc_inv h
      obtain ⟨h2, h⟩ := oc_inv h
      obtain ⟨h3, h⟩ := oc_inv h
      obtain ⟨h4, h5⟩ := oc_inv h
      rw [Nat.eq_of_beq_eq_true h1, Nat.eq_of_beq_eq_true h2, Nat.eq_of_beq_eq_true h3, Nat.eq_of_beq_eq_true h4, of_decide_eq_true h5]; exact fun u => Iff.rfl
    · cases h
    · cases h
  · intro cs ih b h
    cases b with
    | agg ds =>
      have h : eqV (.agg cs) (.agg ds) = true := h
      rw [eqV_agg] at h
      obtain ⟨h1, h2⟩ := ih ds h
      exact agg_alike h1 h2
    | _ => cases (show false = true from h)
  · intro cs ih b h
    cases b with
    | tup ds =>
      have h : eqV (.agg cs) (.agg ds) = true := h
      rw [eqV_agg] at h
      obtain ⟨h1, h2⟩ := ih ds h
      exact tup_alike h1 h2
    | _ => cases (show false = true from h)
  · intro f as bs i1 i2 b h
    cases b with
    | clo g x y =>
      have h : oc (Nat.beq f g) (oc (eqV (.agg as) (.agg x)) (eqV (.agg bs) (.agg y))) = true := h
      rw [eqV_agg, eqV_agg] at h
      obtain ⟨h1, h⟩ := oc_inv h
      obtain ⟨h2, h3⟩ := oc_inv h
      rw [← Nat.eq_of_beq_eq_true h1]
      exact clo_alike (i1 x h2).1 (i1 x h2).2 (i2 y h3).1 (i2 y h3).2
    | _ => cases (show false = true from h)
  · intro n b h
    obtain ⟨m, rfl, h⟩ := onM_inv (show onM b (fun m => Nat.beq n m) = true from h)
    rw [Nat.eq_of_beq_eq_true h]; exact fun u => Iff.rfl
  · intro t x ih b h
    obtain ⟨u, y, rfl, h⟩ := onF_inv (show onF b (fun u y => oc (Nat.beq t u) (eqV x y)) = true from h)
    obtain ⟨h1, h2⟩ := oc_inv h
    rw [← Nat.eq_of_beq_eq_true h1]
    exact ifc_alike (ih y h2)
  · intro m h
    rw [nilB_nil (show nilB m = true from h)]
    exact ⟨rfl, fun i c d hc => by simp at hc⟩
  · intro x t i1 i2 m h
    cases m with
    | nil => cases (show false = true from h)
    | cons y m =>
      obtain ⟨h1, h2⟩ := oc_inv (show oc (eqV x y) (eqL t m) = true from h)
      obtain ⟨h3, h4⟩ := i2 m h2
      refine ⟨by simp [h3], fun i c d hc hd => ?_⟩
      cases i with
      | zero => simp at hc hd; subst hc hd; exact i1 y h1
      | succ i => exact h4 i c d (by simpa using hc) (by simpa using hd)
theorem eqL_ok : ∀ {l m : List MV}, eqL l m = true → l.length = m.length ∧ ∀ (i : Nat) c d, l[i]? = some c → m[i]? = some d → Alike ρ φ nx ρ c d
  | [], m, h => by
    rw [nilB_nil (show nilB m = true from h)]
    exact ⟨rfl, fun i c d hc => by simp at hc⟩
  | x :: t, [], h => by cases (show false = true from h)
  | x :: t, y :: m, h => by
    obtain ⟨h1, h2⟩ := oc_inv (show oc (eqV x y) (eqL t m) = true from h)
    obtain ⟨h3, h4⟩ := eqL_ok h2
    refine ⟨by simp [h3], fun i c d hc hd => ?_⟩
    cases i with
    | zero => simp at hc hd; subst hc hd; exact eqV_ok x y h1
    | succ i => exact h4 i c d (by simpa using hc) (by simpa using hd)
theorem eqR_ok : ∀ {l m : List (MV × MV)}, eqR l m = true → l.length = m.length ∧ ∀ (i : Nat) c d, l[i]? = some c → m[i]? = some d → Alike ρ φ nx ρ c.1 d.1 ∧ Alike ρ φ nx ρ c.2 d.2
  | [], m, h => by
    rw [nilB_nil (show nilB m = true from h)]
    exact ⟨rfl, fun i c d hc => by simp at hc⟩
  | x :: t, [], h => by cases (show false = true from h)
  | x :: t, y :: m, h => by
    obtain ⟨h1, h⟩ := oc_inv (show oc (eqV x.1 y.1) (oc (eqV x.2 y.2) (eqR t m)) = true from h)
    obtain ⟨h2, h5⟩ := oc_inv h
    obtain ⟨h3, h4⟩ := eqR_ok h5
    refine ⟨by simp [h3], fun i c d hc hd => ?_⟩
    cases i with
    | zero => simp at hc hd; subst hc hd; exact ⟨eqV_ok _ _ h1, eqV_ok _ _ h2⟩
    | succ i => exact h4 i c d (by simpa using hc) (by simpa using hd)
end
/-- What is known of two blocks says the same. -/
def AlikeO (ρ : Nat → Int) (φ : Nat → Ph) (nx : Nat) (ρ' : Nat → Int) (a b : MO) : Prop := (a = .dead ↔ b = .dead) ∧ ∀ w n, ObjOk ρ φ nx w n a ↔ ObjOk ρ' φ nx w n b
theorem cells_alike {ρ ρ' : Nat → Int} {φ : Nat → Ph} {nx : Nat} {cs ds : List MV} (hl : cs.length = ds.length) (h : ∀ (i : Nat) c d, cs[i]? = some c → ds[i]? = some d → Alike ρ φ nx ρ' c d) : AlikeO ρ φ nx ρ' (.cells cs) (.cells ds) := by
  refine ⟨by simp, fun w n => ?_⟩
  constructor
  · rintro ⟨arr, ty, h1, h2, h3⟩
    refine ⟨arr, ty, h1, h2, fun i d hd => ?_⟩
    have hlt : i < cs.length := by have := (List.getElem?_eq_some_iff.1 hd).1; omega
    obtain ⟨u, a, b, e⟩ := h3 i cs[i] (by simp [hlt])
    exact ⟨u, a, b, (h i cs[i] d (by simp [hlt]) hd u).1 e⟩
  · rintro ⟨arr, ty, h1, h2, h3⟩
    refine ⟨arr, ty, h1, h2, fun i c hc => ?_⟩
    have hlt : i < ds.length := by have := (List.getElem?_eq_some_iff.1 hc).1; omega
    obtain ⟨u, a, b, e⟩ := h3 i ds[i] (by simp [hlt])
    exact ⟨u, a, b, (h i c ds[i] hc (by simp [hlt]) u).2 e⟩
theorem map_alike {ρ ρ' : Nat → Int} {φ : Nat → Ph} {nx : Nat} {cs ds : List (MV × MV)} (hl : cs.length = ds.length) (h : ∀ (i : Nat) c d, cs[i]? = some c → ds[i]? = some d → Alike ρ φ nx ρ' c.1 d.1 ∧ Alike ρ φ nx ρ' c.2 d.2) : AlikeO ρ φ nx ρ' (.map cs) (.map ds) := by
  refine ⟨by simp, fun w n => ?_⟩
  constructor
  · rintro ⟨ents, clock, h1, h2, h3⟩
    refine ⟨ents, clock, h1, by omega, fun i d hd => ?_⟩
    have hlt : i < cs.length := by have := (List.getElem?_eq_some_iff.1 hd).1; omega
    obtain ⟨m, a, b, e⟩ := h3 i cs[i] (by simp [hlt])
    obtain ⟨q1, q2⟩ := h i cs[i] d (by simp [hlt]) hd
    exact ⟨m, a, (q1 _).1 b, (q2 _).1 e⟩
  · rintro ⟨ents, clock, h1, h2, h3⟩
    refine ⟨ents, clock, h1, by omega, fun i c hc => ?_⟩
    have hlt : i < ds.length := by have := (List.getElem?_eq_some_iff.1 hc).1; omega
    obtain ⟨m, a, b, e⟩ := h3 i ds[i] (by simp [hlt])
    obtain ⟨q1, q2⟩ := h i c ds[i] hc (by simp [hlt])
    exact ⟨m, a, (q1 _).2 b, (q2 _).2 e⟩
theorem eqO_ok {ρ : Nat → Int} {φ : Nat → Ph} {nx : Nat} {a b : MO} (h : eqO a b = true) : AlikeO ρ φ nx ρ a b := by
  cases a with
  | cells l =>
    obtain ⟨m, rfl, h⟩ := onCells_inv (show onCells b (fun m => eqL l m) = true from h)
    exact cells_alike (eqL_ok (ρ := ρ) (φ := φ) (nx := nx) h).1 (eqL_ok h).2
  | map l =>
    obtain ⟨m, rfl, h⟩ := onMap_inv (show onMap b (fun m => eqR l m) = true from h)
    exact map_alike (eqR_ok (ρ := ρ) (φ := φ) (nx := nx) h).1 (eqR_ok h).2
  | dead =>
    cases b with
    | dead => exact ⟨Iff.rfl, fun w n => Iff.rfl⟩
    | _ => cases (show false = true from h)

/-! ### Another run's variables -/
def sgR (ρ : Nat → Int) (σ : Sg) (i : Nat) : Int := match σ[i]? with | some s => s.1 + dot ρ 0 s.2 | none => 0
theorem subA_ok {ρ : Nat → Int} : ∀ (l : List Int) (σ : Sg) (ρ' : Nat → Int) (i : Nat), (∀ j, ρ' (i + j) = sgR ρ σ j) → (subA σ l).1 + dot ρ 0 (subA σ l).2 = dot ρ' i l
  | [], σ, ρ', i, h => by simp [subA, dot]
  | a :: l, [], ρ', i, h => by
    have ih := subA_ok (ρ := ρ) l [] ρ' (i + 1) fun j => by rw [Nat.add_assoc, h]; simp [sgR]
    have h0 : ρ' i = 0 := by have := h 0; simpa [sgR] using this
    have e : ∀ m : List Int, subA [] m = (0, []) := fun m => by cases m <;> rfl
    rw [e] at ih ⊢
    simp only [dot, h0, Int.mul_zero, Int.zero_add] at ih ⊢
    exact ih
  | a :: l, s :: σ, ρ', i, h => by
    have ih := subA_ok (ρ := ρ) l σ ρ' (i + 1) fun j => by rw [Nat.add_assoc, h, Nat.add_comm 1 j]; simp [sgR]
    have h0 : ρ' i = s.1 + dot ρ 0 s.2 := by have := h 0; simpa [sgR] using this
    simp only [subA, dot, dot_add, dot_mul, h0, Int.mul_add]
    omega
section
variable {ρ : Nat → Int} {φ : Nat → Ph} {nx : Nat} {σ : Sg}
theorem subN_ok {k : IntKind} {c : Int} {l : List Int} : Alike ρ φ nx (sgR ρ σ) (subN σ k c l) (.a k c l) := by
  intro u
  unfold subN
  rw [mk_iff, int_rel, ← subA_ok l σ (sgR ρ σ) 0 (fun j => by rw [Nat.zero_add]), Int.add_assoc]
theorem subV_agg (cs : List MV) : subV σ (.agg cs) = .agg (cs.map (subV σ)) := by
  have : ∀ l : List MV, @MV.rec_1 (fun _ => MV) (fun _ => List MV) (fun x => .v x) (fun x => .b x) (fun k c => .n k c) (fun k c l => subN σ k c l) (fun n o => .ptr n o) (fun sz n o l c => .sl sz n o l c) (fun _ ih => .agg ih) (fun _ ih => .tup ih)
      (fun f _ _ i1 i2 => .clo f i1 i2) (fun n => .mp n) (fun t _ ih => .ifc t ih) [] (fun _ _ i1 i2 => i1 :: i2) l = l.map (subV σ) := by
    intro l; induction l with
    | nil => rfl
    | cons x t ih => rw [List.map_cons, ← ih]; rfl
  rw [← this]; rfl
theorem subV_tup (cs : List MV) : subV σ (.tup cs) = .tup (cs.map (subV σ)) := by
  have h := subV_agg (σ := σ) cs
  have e : ∀ x y, MV.agg x = MV.agg y → MV.tup x = MV.tup y := fun x y h => by cases h; rfl
  exact e _ _ h
theorem subV_clo (f : Nat) (cs ds : List MV) : subV σ (.clo f cs ds) = .clo f (cs.map (subV σ)) (ds.map (subV σ)) := by
  have h := subV_agg (σ := σ) cs
  have h2 := subV_agg (σ := σ) ds
  have e : ∀ x y x' y', MV.agg x = MV.agg y → MV.agg x' = MV.agg y' → MV.clo f x x' = MV.clo f y y' := fun x y x' y' h h' => by cases h; cases h'; rfl
  exact e _ _ _ _ h h2
theorem map_row {l : List MV} (h : ∀ (i : Nat) c, l[i]? = some c → Alike ρ φ nx (sgR ρ σ) (subV σ c) c) : (l.map (subV σ)).length = l.length ∧ ∀ (i : Nat) c d, (l.map (subV σ))[i]? = some c → l[i]? = some d → Alike ρ φ nx (sgR ρ σ) c d := by
  refine ⟨by simp, fun i c d hc hd => ?_⟩
  rw [List.getElem?_map, hd] at hc
  cases hc
  exact h i d hd
theorem subV_ok (a : MV) : Alike ρ φ nx (sgR ρ σ) (subV σ a) a := by
  refine @MV.rec (fun a => Alike ρ φ nx (sgR ρ σ) (subV σ a) a) (fun l => ∀ (i : Nat) c, l[i]? = some c → Alike ρ φ nx (sgR ρ σ) (subV σ c) c) ?_ ?_ ?_ ?_ ?_ ?_ ?_ ?_ ?_ ?_ ?_ ?_ ?_ a
  · intro x u; exact ⟨fun h => by cases h; exact .v x, fun h => by cases h; exact .v x⟩
  · intro x u; exact ⟨fun h => by cases h; exact .b x, fun h => by cases h; exact .b x⟩
  · intro k c u; exact ⟨fun h => by cases h; exact .n k c, fun h => by cases h; exact .n k c⟩
  · intro k c l; exact subN_ok
  · intro n o u; exact ⟨fun h => by cases h with | ptr h => exact .ptr h, fun h => by cases h with | ptr h => exact .ptr h⟩
  · intro sz n o l c u; exact ⟨fun h => by cases h with | sl h1 h2 h3 h4 h5 => exact .sl h1 h2 h3 h4 h5, fun h => by cases h with | sl h1 h2 h3 h4 h5 => exact .sl h1 h2 h3 h4 h5⟩
  · intro cs ih; rw [subV_agg]; exact agg_alike (map_row ih).1 (map_row ih).2
  · intro cs ih; rw [subV_tup]; exact tup_alike (map_row ih).1 (map_row ih).2
  · intro f as bs i1 i2; rw [subV_clo]; exact clo_alike (map_row i1).1 (map_row i1).2 (map_row i2).1 (map_row i2).2
  · intro n u; exact ⟨fun h => by cases h with | mp h => exact .mp h, fun h => by cases h with | mp h => exact .mp h⟩
  · intro t x ih; exact ifc_alike ih
  · intro i c hc; simp at hc
  · intro x t i1 i2 i c hc
    cases i with
    | zero => simp at hc; subst hc; exact i1
    | succ i => exact i2 i c (by simpa using hc)
theorem subO_ok (o : MO) : AlikeO ρ φ nx (sgR ρ σ) (subO σ o) o := by
  cases o with
  | cells l =>
    rw [show subO σ (.cells l) = .cells (mapL (subV σ) l) from rfl, mapL_eq]
    have h := map_row (ρ := ρ) (φ := φ) (nx := nx) (σ := σ) (l := l) fun i c _ => subV_ok c
    exact cells_alike h.1 h.2
  | map es =>
    rw [show subO σ (.map es) = .map (mapL (fun e => (subV σ e.1, subV σ e.2)) es) from rfl, mapL_eq]
    refine map_alike (by simp) fun i c d hc hd => ?_
    rw [List.getElem?_map, hd] at hc
    cases hc
    exact ⟨subV_ok _, subV_ok _⟩
  | dead => exact ⟨Iff.rfl, fun w n => Iff.rfl⟩
end
end Go.Proofs.YtnajikpdnccilaaGreat.Pv.M
