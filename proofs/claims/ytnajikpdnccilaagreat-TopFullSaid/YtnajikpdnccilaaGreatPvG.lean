/- What is made: structs, slices; what is appended, copied, cut. -/
import Derived.Test.YtnajikpdnccilaaGreatPvF
set_option linter.unusedVariables false
set_option linter.unusedSimpArgs false
namespace Go.Proofs.YtnajikpdnccilaaGreat.Pv
open Go

section
variable {P : Program} {tab : Tab} {c : Ctx} {nx : Nat} {env : Env} {H : Heap} {K : PV → Nat → Heap → Prop} {o : Oper}

theorem fold_set {off : Nat} : ∀ (l : List Value) (k : Nat) (cells : Array Value) (j : Nat), off + k + l.length ≤ cells.size →
    ((l.zipIdx k).foldl (fun cs (p : Value × Nat) => cs.setIfInBounds (off + p.2) p.1) cells)[j]? =
      if off + k ≤ j ∧ j < off + k + l.length then l[j - (off + k)]? else cells[j]?
  | [], k, cells, j, _ => by simp; intro h1 h2; omega
  | v :: l, k, cells, j, h => by
    simp only [List.zipIdx_cons, List.foldl_cons]
    simp only [List.length_cons] at h ⊢
    rw [fold_set l (k + 1) _ j (by simp; omega)]
    by_cases h1 : off + (k + 1) ≤ j ∧ j < off + (k + 1) + l.length
    · rw [if_pos h1, if_pos (by omega)]
      have : j - (off + k) = (j - (off + (k + 1))) + 1 := by omega
      rw [this, List.getElem?_cons_succ]
    · rw [if_neg h1, Array.getElem?_setIfInBounds]
      by_cases h2 : off + k = j
      · rw [if_pos h2, if_pos (by omega), if_pos (by omega)]
        have : j - (off + k) = 0 := by omega
        rw [this]; rfl
      · rw [if_neg h2, if_neg (by omega)]

theorem fold_set_size {off : Nat} : ∀ (l : List Value) (k : Nat) (cells : Array Value), ((l.zipIdx k).foldl (fun cs (p : Value × Nat) => cs.setIfInBounds (off + p.2) p.1) cells).size = cells.size
  | [], k, cells => rfl
  | v :: l, k, cells => by simp only [List.zipIdx_cons, List.foldl_cons]; rw [fold_set_size l (k + 1)]; simp

/-- One part laid into the cells of a whole. -/
def lay (cells : Array Value) (off : Nat) (v : Array Value) : Array Value := v.zipIdx.foldl (fun cs (c, j) => cs.setIfInBounds (off + j) c) cells

theorem lay_size (cells : Array Value) (off : Nat) (v : Array Value) : (lay cells off v).size = cells.size := by
  unfold lay
  rw [← Array.foldl_toList, Array.toList_zipIdx]
  exact fold_set_size v.toList 0 cells

theorem lay_get {cells : Array Value} {off : Nat} {v : Array Value} (h : off + v.size ≤ cells.size) (j : Nat) :
    (lay cells off v)[j]? = if off ≤ j ∧ j < off + v.size then v[j - off]? else cells[j]? := by
  unfold lay
  rw [← Array.foldl_toList, Array.toList_zipIdx]
  have := fold_set (off := off) v.toList 0 cells j (by simpa using h)
  simpa using this

theorem fill_cons {place : Nat → Option (Nat × Nat)} {cells : Array Value} {i off size : Nat} {v : Value} {rest : List (Nat × Value)} (hp : place i = some (off, size)) (hs : v.cells.size = size)
    (hl : off + size ≤ cells.size) : Instr.fill place cells ((i, v) :: rest) = Instr.fill place (lay cells off v.cells) rest := by
  simp only [Instr.fill, hp]
  rw [if_neg (by simp [hs]; omega)]
  rfl

/-- What is told so may be told otherwise. -/
def PV.le (x y : PV) : Prop := ∀ (φ : Nat → Phys) nx w S v, Rep φ nx w S x v → Rep φ nx w S y v
def LeP : List PV → List PV → Prop
  | [], [] => True
  | x :: s, y :: t => PV.le x y ∧ LeP s t
  | _, _ => False
theorem LeP.refl : ∀ l : List PV, LeP l l
  | [] => trivial
  | x :: t => ⟨fun _ _ _ _ _ h => h, LeP.refl t⟩
theorem LeP.get : ∀ {a b : List PV}, LeP a b → a.length = b.length ∧ ∀ (i : Nat) x y, a[i]? = some x → b[i]? = some y → PV.le x y
  | [], [], _ => ⟨rfl, fun i x y h => by simp at h⟩
  | x :: s, y :: t, h => by
    obtain ⟨k1, k2⟩ := LeP.get h.2
    refine ⟨by simp [k1], fun i u v hu hv => ?_⟩
    cases i with
    | zero => simp at hu hv; subst hu; subst hv; exact h.1
    | succ i => simp at hu hv; exact k2 i u v hu hv
  | [], y :: t, h => h.elim
  | x :: s, [], h => h.elim

/-- The parts of a struct, one by one. -/
def buildP (tab : Tab) (env : Env) (fs : List (Nat × Nat)) (C : List PV → Prop) : List (Nat × Operand) → List PV → Prop
  | [], cs => ∃ ds, LeP cs ds ∧ C ds
  | (q, x) :: r, cs => ∃ off ft it pv, fs[q]? = some (off, ft) ∧ tab ft = some it ∧ ev env x = some pv ∧ pv.storable = true ∧ pv.cells.length = it.size ∧ off + it.size ≤ cs.length ∧
      buildP tab env fs C r (splice cs off pv.cells)

/-- Cells in hand, and what is told of them. -/
def RepC (φ : Nat → Phys) (nx : Nat) (w : World) (S : Nat → Nat → Prop) (cs : List PV) (vs : Array Value) : Prop :=
  vs.size = cs.length ∧ ∀ (i : Nat) c, cs[i]? = some c → ∃ u, vs[i]? = some u ∧ one u = true ∧ Rep φ nx w S c u

theorem RepC.mkAgg {φ : Nat → Phys} {w : World} {S : Nat → Nat → Prop} {cs : List PV} {vs : Array Value} (h : RepC φ nx w S cs vs) : Rep φ nx w S (Pv.mkAgg cs) (.agg vs) := by
  refine Rep.mkAgg h.1 (fun i u hu => ?_) (fun i d u hd hu => ?_)
  · have hlt : i < cs.length := by rw [← h.1]; exact (Array.getElem?_eq_some_iff.1 hu).1
    obtain ⟨u', a, b, _⟩ := h.2 i cs[i] (by simp [hlt])
    rw [a] at hu; cases hu; exact b
  · obtain ⟨u', a, _, b⟩ := h.2 i d hd
    rw [a] at hu; cases hu; exact b

theorem RepC.lay {φ : Nat → Phys} {w : World} {S : Nat → Nat → Prop} {cs : List PV} {vs : Array Value} (h : RepC φ nx w S cs vs) {pv : PV} {v : Value} (hr : Rep φ nx w S pv v) (h1 : pv.storable = true)
    {off : Nat} (hl : off + pv.cells.length ≤ cs.length) : RepC φ nx w S (splice cs off pv.cells) (Pv.lay vs off v.cells) := by
  obtain ⟨c1, c2⟩ := hr.cells h1
  refine ⟨by rw [lay_size, splice_length hl, h.1], fun i d hd => ?_⟩
  rw [splice_get hl] at hd
  rw [lay_get (by rw [c1, h.1]; exact hl), c1]
  by_cases q1 : i < off
  · rw [if_pos q1] at hd
    rw [if_neg (by omega)]
    exact h.2 i d hd
  · rw [if_neg q1] at hd
    by_cases q2 : i < off + pv.cells.length
    · rw [if_pos q2] at hd
      rw [if_pos (by omega)]
      exact c2 _ d hd
    · rw [if_neg q2] at hd
      rw [if_neg (by omega)]
      exact h.2 i d hd

theorem fill_buildP (ht : TabOk P tab) {fs : List (Nat × Nat)} {C : List PV → Prop} {φ : Nat → Phys} {tmps : Array Value} {w : World} (hs : StΦ c nx env H φ tmps w) {place : Nat → Option (Nat × Nat)}
    (hpl : ∀ (q off ft : Nat) (it : TI), fs[q]? = some (off, ft) → tab ft = some it → place q = some (off, it.size)) :
    ∀ (parts : List (Nat × Operand)) (cs : List PV) (vs : Array Value), RepC φ nx w (SS c.So φ H) cs vs → buildP tab env fs C parts cs →
      ∃ cs' vs', Instr.fill place vs (parts.map fun p => (p.1, (act tmps).eval p.2)) = some vs' ∧ RepC φ nx w (SS c.So φ H) cs' vs' ∧ C cs'
  | [], cs, vs, h, hb => by
    obtain ⟨ds, hl, hc⟩ := hb
    obtain ⟨k1, k2⟩ := hl.get
    refine ⟨ds, vs, rfl, ⟨by rw [h.1, k1], fun i d hd => ?_⟩, hc⟩
    have hlt : i < cs.length := by rw [k1]; exact (List.getElem?_eq_some_iff.1 hd).1
    obtain ⟨u, u1, u2, u3⟩ := h.2 i cs[i] (by simp [hlt])
    exact ⟨u, u1, u2, k2 i cs[i] d (by simp [hlt]) hd _ _ _ _ _ u3⟩
  | (q, x) :: r, cs, vs, h, hb => by
    obtain ⟨off, ft, it, pv, h1, h2, h3, h4, h5, h6, h7⟩ := hb
    have hr := ev_rep hs h3
    have hc := (hr.cells h4).1
    obtain ⟨cs', vs', k1, k2, k3⟩ := fill_buildP ht hs hpl r _ _ (h.lay hr h4 (by rw [h5]; exact h6)) h7
    refine ⟨cs', vs', ?_, k2, k3⟩
    rw [List.map_cons, fill_cons (hpl q off ft it h1 h2) (by rw [hc, h5]) (by rw [h.1]; exact h6)]
    exact k1

def stepBuild (tab : Tab) (env : Env) (H : Heap) (nx : Nat) (K : PV → Nat → Heap → Prop) (t : Nat) (parts : List (Nat × Operand)) : Prop :=
  (∃ i fs, tab t = some i ∧ i.kd = .struct fs ∧ (fs.all fun p => (tab p.2).isSome) = true ∧ buildP tab env fs (fun cs => K (mkAgg cs) nx H) parts (i.zero.map fun v => .f (.v v))) ∨
  (∃ i n e ie, tab t = some i ∧ i.kd = .arr n e ∧ tab e = some ie ∧ buildP tab env ((List.range n).map fun k => (k * ie.size, e)) (fun cs => K (mkAgg cs) nx H) parts (i.zero.map fun v => .f (.v v)))

theorem zero_repC (ht : TabOk P tab) {t : Nat} {i : TI} (h : tab t = some i) (φ : Nat → Phys) (nx : Nat) (w : World) (S : Nat → Nat → Prop) : RepC φ nx w S (i.zero.map fun v => .f (.v v)) i.zero.toArray := by
  refine ⟨by simp, fun j d hd => ?_⟩
  simp only [List.getElem?_map, Option.map_eq_some_iff] at hd
  obtain ⟨v, h1, rfl⟩ := hd
  exact ⟨v, by simpa using h1, (ht t i h).ones v (List.mem_of_getElem? h1), .f (.v v)⟩

theorem run_placesAny {F : List Field} {places : List (Nat × Nat)} (w : World) (h : ∀ (q : Nat) f, F[q]? = some f → ∃ n, (∀ w, (sizeOf f.type).run P w = .ok n w) ∧ places[q]? = some (f.offset, n)) (hl : places.length = F.length) :
    (F.mapM fun (f : Field) => do pure (f.offset, ← sizeOf f.type)).run P w = .ok places w := by
  induction F generalizing places with
  | nil => cases places with
    | nil => simp
    | cons p q => simp at hl
  | cons f F ih =>
    cases places with
    | nil => simp at hl
    | cons p q =>
      obtain ⟨n, h1, h2⟩ := h 0 f rfl
      simp at h2; subst h2
      have := ih (places := q) (fun i g hg => by have := h (i + 1) g (by simpa using hg); simpa using this) (by simpa using hl)
      simp only [List.mapM_cons, Sem.run_bind, h1, Result.andThen_ok, Sem.run_pure, this]

theorem does_build (ht : TabOk P tab) {t : Nat} {parts : Array (Nat × Operand)} (ho : o.op = .build t parts) (h : stepBuild tab env H nx K t parts.toList) : Does P o c nx env H K :=
  Does.pure fun φ tmps w hs => by
    rcases h with ⟨i, fs, h1, h2, hall, h3⟩ | ⟨i, n, e, ie, h1, h2, he, h3⟩
    case inr =>
      have hu : P.underlying t = some (.array n e) := by have := (ht t i h1).under; rw [h2] at this; exact this
      obtain ⟨z, hz, hzc⟩ := zero_cells ht h1
      have hpl : ∀ (q off ft : Nat) (it : TI), ((List.range n).map fun k => (k * ie.size, e))[q]? = some (off, ft) → tab ft = some it → (fun i => some (i * ie.size, ie.size) : Nat → Option (Nat × Nat)) q = some (off, it.size) := by
        intro q off ft it a b
        simp only [List.getElem?_map, Option.map_eq_some_iff, Prod.mk.injEq] at a
        obtain ⟨k, hk, rfl, rfl⟩ := a
        rw [List.getElem?_range (by have := (List.getElem?_eq_some_iff.1 hk).1; simpa using this)] at hk
        cases hk
        rw [he] at b; cases b; rfl
      obtain ⟨cs', vs', k1, k2, k3⟩ := fill_buildP ht hs hpl parts.toList _ _ (zero_repC ht h1 φ nx w _) h3
      refine ⟨_, .agg vs', ?_, k3, k2.mkAgg⟩
      simp only [execOp, ho, Instr.build]
      simp only [Sem.run_bind, hz, Result.andThen_ok, run_underlying hu, run_size ht he, hzc]
      have e : (parts.map fun (i, x) => (i, (act tmps).eval x)).toList = parts.toList.map fun p => (p.1, (act tmps).eval p.2) := by simp
      rw [e, k1]
      rfl
    have hu := (ht t i h1).under
    rw [h2] at hu
    obtain ⟨F, u1, u2⟩ := hu
    obtain ⟨z, hz, hzc⟩ := zero_cells ht h1
    have hsz : ∀ p ∈ fs, ∃ it, tab p.2 = some it := fun p hp => Option.isSome_iff_exists.1 (by simpa using List.all_eq_true.1 hall p hp)
    let places : List (Nat × Nat) := fs.map fun p => (p.1, ((tab p.2).getD default).size)
    have hpl : ∀ (q off ft : Nat) (it : TI), fs[q]? = some (off, ft) → tab ft = some it → (places.toArray[·]?) q = some (off, it.size) := by
      intro q off ft it a b
      simp [places, a, b]
    obtain ⟨cs', vs', k1, k2, k3⟩ := fill_buildP ht hs hpl parts.toList _ _ (zero_repC ht h1 φ nx w _) h3
    refine ⟨_, .agg vs', ?_, k3, k2.mkAgg⟩
    have hm : (F.mapM fun (f : Field) => do pure (f.offset, ← sizeOf f.type)).run P w = .ok places.toArray w := by
      rw [Array.mapM_eq_mapM_toList]
      rw [Sem.run_map]
      rw [run_placesAny (places := places) w (fun q f hf => ?_) (by simp [places, ← u2])]
      · rfl
      · have hq : fs[q]? = some (f.offset, f.type) := by rw [← u2]; simp [hf]
        obtain ⟨it, hit⟩ := hsz _ (List.mem_of_getElem? hq)
        exact ⟨it.size, fun w => run_size ht hit w, by simp [places, hq, hit]⟩
    simp only [execOp, ho, Instr.build]
    simp only [Sem.run_bind, hz, Result.andThen_ok, run_underlying u1, hm, hzc]
    have e : (parts.map fun (i, x) => (i, (act tmps).eval x)).toList = parts.toList.map fun p => (p.1, (act tmps).eval p.2) := by simp
    rw [e, k1]
    rfl
end
end Go.Proofs.YtnajikpdnccilaaGreat.Pv
