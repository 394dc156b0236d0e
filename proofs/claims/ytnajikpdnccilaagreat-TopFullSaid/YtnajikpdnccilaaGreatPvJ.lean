/- Slices: made, appended to. -/
import Derived.Test.YtnajikpdnccilaaGreatPvI
set_option linter.unusedVariables false
set_option linter.unusedSimpArgs false
namespace Go.Proofs.YtnajikpdnccilaaGreat.Pv
open Go

def frz1 (H : Heap) : PV → Option (FV × Heap)
  | .f y => some (y, H)
  | .ref n lo hi => match look H n with
    | some (.buf _ sz l) => some (.sl sz false (view lo hi l), hput H n (.buf false sz l))
    | _ => none
  | _ => none

def frzL (H : Heap) : List PV → Option (List FV × Heap)
  | [] => some ([], H)
  | x :: t => match frz1 H x with
    | some (y, H1) => match frzL H1 t with
      | some (ys, H2) => some (y :: ys, H2)
      | none => none
    | none => none

/-- A value told without names: what it leads to is written no more. -/
def frz (H : Heap) : PV → Option (FV × Heap)
  | .agg cs => match frzL H cs with
    | some (l, H') => some (.agg l, H')
    | none => none
  | x => frz1 H x

def frzs (H : Heap) : List PV → Option (List FV × Heap)
  | [] => some ([], H)
  | x :: t => match frz H x with
    | some (y, H1) => match frzs H1 t with
      | some (ys, H2) => some (y :: ys, H2)
      | none => none
    | none => none

def evs (env : Env) : List Operand → Option (List PV)
  | [] => some []
  | x :: t => match ev env x with
    | some y => match evs env t with
      | some ys => some (y :: ys)
      | none => none
    | none => none

section
variable {P : Program} {tab : Tab} {c : Ctx} {nx : Nat} {env : Env} {H H' : Heap} {K : PV → Nat → Heap → Prop} {o : Oper}

/-- From H to H': less is its own, all else as it was. -/
def Less (c : Ctx) (φ : Nat → Phys) (w : World) (H H' : Heap) : Prop := Mono w (SS c.So φ H) w (SS c.So φ H')

theorem look_hput_same (H : Heap) (n : Nat) (o : Obj) : look (hput H n o) n = some o := look_cons_same _ _ _
theorem look_hput_ne (H : Heap) {n m : Nat} (o : Obj) (h : n ≠ m) : look (hput H n o) m = look H m := by
  unfold hput; rw [look_cons_ne _ _ h, look_drop_ne _ h]

theorem own_freeze {φ : Nat → Phys} {n : Nat} {wr : Bool} {sz : Nat} {l : List FV} (hn : look H n = some (.buf wr sz l)) {b off : Nat} (h : Own φ (hput H n (.buf false sz l)) b off) : Own φ H b off := by
  obtain ⟨m, o, h1, h2, h3, h4⟩ := h
  by_cases e : n = m
  · subst e
    rw [look_hput_same] at h1; cases h1
    refine ⟨n, _, hn, h2, h3, Nat.le_trans ?_ h4⟩
    cases wr <;> simp [lim]
  · rw [look_hput_ne _ _ e] at h1
    exact ⟨m, o, h1, h2, h3, h4⟩

theorem frz1_ok {φ : Nat → Phys} {tmps : Array Value} {w : World} (hs : StΦ c nx env H φ tmps w) {pv : PV} {y : FV} (hf : frz1 H pv = some (y, H')) :
    StΦ c nx env H' φ tmps w ∧ Less c φ w H H' ∧ ∀ v, Rep φ nx w (SS c.So φ H) pv v → RepF w (SS c.So φ H') y v := by
  cases pv with
  | f x =>
    simp only [frz1, Option.some.injEq, Prod.mk.injEq] at hf
    obtain ⟨rfl, rfl⟩ := hf
    exact ⟨hs, Mono.refl _ _, fun v hr => by cases hr with | f h => exact h⟩
  | ref n lo hi =>
    simp only [frz1] at hf
    split at hf
    · rename_i wr sz l hl
      simp only [Option.some.injEq, Prod.mk.injEq] at hf
      obtain ⟨rfl, rfl⟩ := hf
      have hm : Less c φ w H (hput H n (.buf false sz l)) := by
        intro b off u hc hS
        refine ⟨hc, ?_⟩
        rintro (h | h)
        · exact hS (.inl h)
        · exact hS (.inr (own_freeze hl h))
      have hs' := hs.freeze hl
      exact ⟨hs', hm, fun v hr => hs'.frozen_ref (look_hput_same _ _ _) (hr.step (fun _ _ => rfl) (Nat.le_refl _) hm)⟩
    · cases hf
  | _ => simp [frz1] at hf

theorem frzL_ok {φ : Nat → Phys} {tmps : Array Value} {w : World} : ∀ {cs : List PV} {l : List FV} {H H' : Heap}, StΦ c nx env H φ tmps w → frzL H cs = some (l, H') →
    StΦ c nx env H' φ tmps w ∧ Less c φ w H H' ∧ l.length = cs.length ∧ ∀ (i : Nat) d v, cs[i]? = some d → Rep φ nx w (SS c.So φ H) d v → ∃ y, l[i]? = some y ∧ RepF w (SS c.So φ H') y v
  | [], l, H, H', hs, hf => by
    simp only [frzL, Option.some.injEq, Prod.mk.injEq] at hf
    obtain ⟨rfl, rfl⟩ := hf
    exact ⟨hs, Mono.refl _ _, rfl, fun i d v h => by simp at h⟩
  | x :: t, l, H, H', hs, hf => by
    simp only [frzL] at hf
    split at hf
    · rename_i y H1 h1
      split at hf
      · rename_i ys H2 h2
        simp only [Option.some.injEq, Prod.mk.injEq] at hf
        obtain ⟨rfl, rfl⟩ := hf
        obtain ⟨a1, a2, a3⟩ := frz1_ok hs h1
        obtain ⟨b1, b2, b3, b4⟩ := frzL_ok a1 h2
        refine ⟨b1, a2.trans b2, by simp [b3], fun i d v hd hr => ?_⟩
        cases i with
        | zero => simp at hd; subst hd; exact ⟨y, rfl, (a3 v hr).step b2⟩
        | succ i => simpa using b4 i d v (by simpa using hd) (hr.step (fun _ _ => rfl) (Nat.le_refl _) a2)
      · cases hf
    · cases hf

theorem frz_ok {φ : Nat → Phys} {tmps : Array Value} {w : World} (hs : StΦ c nx env H φ tmps w) {pv : PV} {y : FV} (hf : frz H pv = some (y, H')) :
    StΦ c nx env H' φ tmps w ∧ Less c φ w H H' ∧ ∀ v, Rep φ nx w (SS c.So φ H) pv v → RepF w (SS c.So φ H') y v := by
  cases pv with
  | agg cs =>
    simp only [frz] at hf
    split at hf
    · rename_i l H1 h1
      simp only [Option.some.injEq, Prod.mk.injEq] at hf
      obtain ⟨rfl, rfl⟩ := hf
      obtain ⟨b1, b2, b3, b4⟩ := frzL_ok hs h1
      refine ⟨b1, b2, fun v hr => ?_⟩
      cases hr with
      | agg _ vs e1 e2 e3 =>
        refine .agg l vs (by rw [e1, b3]) e2 fun i d u hd hu => ?_
        have hlt : i < cs.length := by rw [← b3]; exact (List.getElem?_eq_some_iff.1 hd).1
        obtain ⟨y, k1, k2⟩ := b4 i cs[i] u (by simp [hlt]) (e3 i _ u (by simp [hlt]) hu)
        rw [k1] at hd; cases hd; exact k2
    · cases hf
  | f x => exact frz1_ok hs hf
  | ref n lo hi => exact frz1_ok hs hf
  | ptr n off => exact frz1_ok hs hf
  | ep n i off => exact frz1_ok hs hf
  | tup xs => exact frz1_ok hs hf
  | clo fn caps => exact frz1_ok hs hf

theorem frzs_ok {φ : Nat → Phys} {tmps : Array Value} {w : World} : ∀ {cs : List PV} {l : List FV} {H H' : Heap}, StΦ c nx env H φ tmps w → frzs H cs = some (l, H') →
    StΦ c nx env H' φ tmps w ∧ Less c φ w H H' ∧ l.length = cs.length ∧ ∀ (i : Nat) d v, cs[i]? = some d → Rep φ nx w (SS c.So φ H) d v → ∃ y, l[i]? = some y ∧ RepF w (SS c.So φ H') y v
  | [], l, H, H', hs, hf => by
    simp only [frzs, Option.some.injEq, Prod.mk.injEq] at hf
    obtain ⟨rfl, rfl⟩ := hf
    exact ⟨hs, Mono.refl _ _, rfl, fun i d v h => by simp at h⟩
  | x :: t, l, H, H', hs, hf => by
    simp only [frzs] at hf
    split at hf
    · rename_i y H1 h1
      split at hf
      · rename_i ys H2 h2
        simp only [Option.some.injEq, Prod.mk.injEq] at hf
        obtain ⟨rfl, rfl⟩ := hf
        obtain ⟨a1, a2, a3⟩ := frz_ok hs h1
        obtain ⟨b1, b2, b3, b4⟩ := frzs_ok a1 h2
        refine ⟨b1, a2.trans b2, by simp [b3], fun i d v hd hr => ?_⟩
        cases i with
        | zero => simp at hd; subst hd; exact ⟨y, rfl, (a3 v hr).step b2⟩
        | succ i => simpa using b4 i d v (by simpa using hd) (hr.step (fun _ _ => rfl) (Nat.le_refl _) a2)
      · cases hf
    · cases hf

theorem evs_get {φ : Nat → Phys} {tmps : Array Value} {w : World} (hs : StΦ c nx env H φ tmps w) : ∀ {xs : List Operand} {ys : List PV}, evs env xs = some ys → ys.length = xs.length ∧
    ∀ (i : Nat) y, ys[i]? = some y → ∃ x, xs[i]? = some x ∧ Rep φ nx w (SS c.So φ H) y ((act tmps).eval x)
  | [], ys, h => by simp only [evs, Option.some.injEq] at h; subst h; exact ⟨rfl, fun i y hy => by simp at hy⟩
  | x :: t, ys, h => by
    simp only [evs] at h
    split at h
    · rename_i y hy
      split at h
      · rename_i zs hz
        simp only [Option.some.injEq] at h
        subst h
        obtain ⟨a, b⟩ := evs_get hs hz
        refine ⟨by simp [a], fun i q hq => ?_⟩
        cases i with
        | zero => simp at hq; subst hq; exact ⟨x, rfl, ev_rep hs hy⟩
        | succ i => simpa using b i q (by simpa using hq)
      · cases h
    · cases h

/-- An element that may be laid into memory. -/
def FV.okay (sz : Nat) (y : FV) : Bool := (y.isAgg || y.one) && y.cells.length == sz

theorem RepF.cells {w : World} {S : Nat → Nat → Prop} {y : FV} {v : Value} {sz : Nat} (h : RepF w S y v) (h1 : y.okay sz = true) :
    v.cells.size = sz ∧ ∀ (j : Nat) d, y.cells[j]? = some d → ∃ u, v.cells[j]? = some u ∧ Pv.one u = true ∧ RepF w S d u := by
  simp only [FV.okay, Bool.and_eq_true, beq_iff_eq] at h1
  have hst : (PV.f y).storable = true := by cases y <;> simp_all [PV.storable, PV.one, FV.isAgg, FV.one]
  obtain ⟨a, b⟩ := (Rep.f (φ := fun _ => default) (nx := 0) h).cells hst
  have hc : (PV.f y).cells = y.cells.map .f := by cases y <;> rfl
  rw [hc] at a b
  refine ⟨by rw [a]; simpa using h1.2, fun j d hd => ?_⟩
  obtain ⟨u, b1, b2, b3⟩ := b j (.f d) (by simp [hd])
  exact ⟨u, b1, b2, by cases b3 with | f h => exact h⟩

/-- The cells of a row of values, one behind the other. -/
def flat (vs : List Value) : List Value := vs.flatMap fun v => v.cells.toList

theorem flat_get {sz : Nat} : ∀ (vs : List Value), (∀ v ∈ vs, v.cells.size = sz) → (flat vs).length = vs.length * sz ∧ ∀ (i j : Nat), i < vs.length → j < sz → (flat vs)[i * sz + j]? = (vs[i]?).bind fun v => v.cells[j]?
  | [], _ => ⟨by simp [flat], fun i j h => by simp at h⟩
  | v :: vs, h => by
    obtain ⟨a, b⟩ := flat_get vs (fun x hx => h x (by simp [hx]))
    have hv := h v (by simp)
    have e : flat (v :: vs) = v.cells.toList ++ flat vs := rfl
    rw [e]
    refine ⟨by simp [a, hv, Nat.add_mul]; omega, fun i j hi hj => ?_⟩
    cases i with
    | zero =>
      rw [List.getElem?_append_left (by simp [hv]; omega)]
      simp
    | succ i =>
      rw [List.getElem?_append_right (by simp [hv, Nat.add_mul]; omega)]
      have : (i + 1) * sz + j - v.cells.toList.length = i * sz + j := by simp [hv, Nat.add_mul]; omega
      rw [this, b i j (by simpa using hi) hj]
      simp

theorem fill_flat {sz : Nat} {place : Nat → Option (Nat × Nat)} (hp : ∀ i, place i = some (i * sz, sz)) : ∀ (vs : List Value) (k : Nat) (cells : Array Value), (∀ v ∈ vs, v.cells.size = sz) → (k + vs.length) * sz ≤ cells.size →
    ∃ cells', Instr.fill place cells ((vs.zipIdx k).map fun p => (p.2, p.1)) = some cells' ∧ cells'.size = cells.size ∧
      (∀ (q : Nat), q < k * sz → cells'[q]? = cells[q]?) ∧ (∀ (q : Nat), k * sz ≤ q → q < (k + vs.length) * sz → cells'[q]? = (flat vs)[q - k * sz]?)
  | [], k, cells, _, _ => ⟨cells, rfl, rfl, fun _ _ => rfl, fun q h1 h2 => by simp at h2; omega⟩
  | v :: vs, k, cells, h, hl => by
    have hv := h v (by simp)
    simp only [List.length_cons] at hl
    have e1 : (k + (vs.length + 1)) * sz = k * sz + sz + vs.length * sz := by rw [Nat.add_mul, Nat.add_mul]; omega
    have e2 : (k + 1) * sz = k * sz + sz := by rw [Nat.add_mul]; omega
    obtain ⟨cells', a1, a2, a3, a4⟩ := fill_flat hp vs (k + 1) (lay cells (k * sz) v.cells) (fun x hx => h x (by simp [hx])) (by rw [lay_size, Nat.add_mul, e2]; omega)
    refine ⟨cells', ?_, by rw [a2, lay_size], fun q hq => ?_, fun q h1 h2 => ?_⟩
    · simp only [List.zipIdx_cons, List.map_cons]
      rw [fill_cons (hp k) hv (by omega)]
      exact a1
    · rw [a3 q (by omega), lay_get (by rw [hv]; omega), if_neg (by omega)]
    · have ef : flat (v :: vs) = v.cells.toList ++ flat vs := rfl
      simp only [List.length_cons] at h2
      rw [ef]
      by_cases hq : q < k * sz + sz
      · rw [a3 q (by omega), lay_get (by rw [hv]; omega), if_pos (by rw [hv]; omega), List.getElem?_append_left (by simp [hv]; omega)]
        simp
      · rw [a4 q (by omega) (by rw [Nat.add_mul, e2]; omega), List.getElem?_append_right (by simp [hv]; omega)]
        congr 1
        simp [hv]; omega

/-- A row of values in a new block, from its beginning on. -/
theorem StΦ.newBuf {φ : Nat → Phys} {tmps : Array Value} {w w' : World} (hs : StΦ c nx env H φ tmps w) {sz cap : Nat} {ys : List FV} {arr : Array Value} {e : Nat}
    (hh : w'.heap = w.heap.push (.cells arr e)) (ho : w'.os = w.os) (ht : w'.tape = w.tape) (hu : w'.output = w.output)
    (hcap : ys.length ≤ cap) (harr : cap * sz ≤ arr.size) (hl : ∀ (i : Nat) y, ys[i]? = some y → y.cells.length = sz)
    (hr : ∀ (i : Nat) y (j : Nat) d, ys[i]? = some y → y.cells[j]? = some d → ∃ u, arr[i * sz + j]? = some u ∧ one u = true ∧ RepF w (SS c.So φ H) d u) :
    StΦ c (nx + 1) env ((nx, .buf true sz ys) :: H) (upd φ nx ⟨w.heap.size, 0, cap, ys.length, sz, false⟩) tmps w' ∧
      ∀ S, Rep (upd φ nx ⟨w.heap.size, 0, cap, ys.length, sz, false⟩) (nx + 1) w' S (.ref nx 0 none) (.slice (some ⟨w.heap.size, 0, none⟩) ys.length cap) := by
  refine ⟨hs.push hh ho ht hu rfl fun hm => ?_, fun S => ?_⟩
  · simp only [SatO, upd_same]
    refine ⟨trivial, trivial, .inr ⟨trivial, arr, e, by rw [hh]; simp, by simpa using harr, hcap, hl, fun i x j d h1 h2 => ?_⟩⟩
    obtain ⟨u, a1, a2, a3⟩ := hr i x j d h1 h2
    exact ⟨u, by simpa using a1, a2, a3.step hm⟩
  · have := Rep.ref (φ := upd φ nx ⟨w.heap.size, 0, cap, ys.length, sz, false⟩) (nx := nx + 1) (w := w') (S := S) (n := nx) (lo := 0) (hi := none) (cap := cap) (A := ⟨w.heap.size, 0, none⟩)
      (Nat.lt_succ_self _) (by rw [upd_same]) (Nat.zero_le _) (by simp) (by rw [upd_same]; simp) (by rw [upd_same]; exact hcap) (fun _ => by rw [upd_same]; simp)
    simpa [upd_same] using this

def stepBuildSlice (tab : Tab) (env : Env) (H : Heap) (nx : Nat) (K : PV → Nat → Heap → Prop) (t len : Nat) (parts : List (Nat × Operand)) : Prop :=
  ∃ i e ie ps ys H', tab t = some i ∧ i.kd = .slice e ∧ tab e = some ie ∧ ie.size ≠ 0 ∧ len * ie.size ≤ 16777216 ∧ parts.map (·.1) = List.range len ∧
    evs env (parts.map (·.2)) = some ps ∧ frzs H ps = some (ys, H') ∧ (ys.all (·.okay ie.size)) = true ∧ K (.ref nx 0 none) (nx + 1) ((nx, .buf true ie.size ys) :: H')

theorem does_buildSlice (ht : TabOk P tab) {t len : Nat} {parts : Array (Nat × Operand)} (ho : o.op = .buildSlice t len parts) (h : stepBuildSlice tab env H nx K t len parts.toList) : Does P o c nx env H K :=
  Does.value fun φ tmps w hs => by
    obtain ⟨i, e, ie, ps, ys, H', h1, h2, h3, h4, h5, h6, h7, h8, h9, h10⟩ := h
    have hu := under_slice ht h1 h2
    obtain ⟨z, hz, hzc⟩ := zero_cells ht h3
    obtain ⟨a1, a2⟩ := evs_get hs h7
    obtain ⟨b1, b2, b3, b4⟩ := frzs_ok hs h8
    have hlen : parts.toList.length = len := by have := congrArg List.length h6; simpa using this
    have hpl : ps.length = len := by rw [a1]; simpa using hlen
    let vs : List Value := parts.toList.map fun p => (act tmps).eval p.2
    have hvl : vs.length = len := by simp [vs]; simpa using hlen
    have hys : ∀ (i : Nat) y, ys[i]? = some y → ∃ v, vs[i]? = some v ∧ RepF w (SS c.So φ H') y v := by
      intro i y hy
      have hlt : i < ps.length := by rw [← b3]; exact (List.getElem?_eq_some_iff.1 hy).1
      obtain ⟨x, k1, k2⟩ := a2 i ps[i] (by simp [hlt])
      obtain ⟨y', k3, k4⟩ := b4 i ps[i] _ (by simp [hlt]) k2
      rw [k3] at hy; cases hy
      refine ⟨(act tmps).eval x, ?_, k4⟩
      simp only [List.getElem?_map, Option.map_eq_some_iff] at k1
      obtain ⟨p, p1, p2⟩ := k1
      simp [vs, p1, p2]
    have hok : ∀ (i : Nat) y, ys[i]? = some y → y.okay ie.size = true := fun i y hy => List.all_eq_true.1 h9 y (List.mem_of_getElem? hy)
    have hsz : ∀ v ∈ vs, v.cells.size = ie.size := by
      intro v hv
      obtain ⟨q, hq⟩ := List.getElem?_of_mem hv
      have hlt : q < ys.length := by rw [b3, hpl, ← hvl]; exact (List.getElem?_eq_some_iff.1 hq).1
      obtain ⟨v', k1, k2⟩ := hys q ys[q] (by simp [hlt])
      rw [k1] at hq; cases hq
      exact (k2.cells (hok q _ (by simp [hlt]))).1
    have hparts : (parts.map fun (i, x) => (i, (act tmps).eval x)).toList = (vs.zipIdx 0).map fun p => (p.2, p.1) := by
      apply List.ext_getElem?
      intro q
      simp only [Array.toList_map, List.getElem?_map, List.getElem?_zipIdx, vs]
      cases hq : parts.toList[q]? with
      | none => simp [hq]
      | some p =>
        have : (parts.toList.map (·.1))[q]? = some p.1 := by simp [hq]
        rw [h6] at this
        have hlt : q < len := by rw [← hlen]; exact (List.getElem?_eq_some_iff.1 hq).1
        simp [hlt] at this
        simp [hq, this]
    obtain ⟨cells', f1, f2, f3, f4⟩ := fill_flat (sz := ie.size) (place := fun i => some (i * ie.size, ie.size)) (fun i => rfl) vs 0 ((Array.range (len * ie.size)).map (z.cells[· % z.cells.size]!)) hsz (by simp [hvl])
    have hflat := flat_get vs hsz
    obtain ⟨n1, n2⟩ := b1.newBuf (w' := w.alloc (.cells cells' e)) (sz := ie.size) (cap := len) (ys := ys) (arr := cells') (e := e) rfl rfl rfl rfl (by rw [b3, hpl]; exact Nat.le_refl _) (by rw [f2]; simp)
      (fun i y hy => by have := hok i y hy; simp only [FV.okay, Bool.and_eq_true, beq_iff_eq] at this; exact this.2)
      (fun i y j d hy hd => by
        obtain ⟨v, k1, k2⟩ := hys i y hy
        have hi : i < vs.length := (List.getElem?_eq_some_iff.1 k1).1
        obtain ⟨c1, c2⟩ := k2.cells (hok i y hy)
        obtain ⟨u, u1, u2, u3⟩ := c2 j d hd
        have hj : j < ie.size := by rw [← c1]; exact (Array.getElem?_eq_some_iff.1 u1).1
        refine ⟨u, ?_, u2, u3⟩
        have hlt : i * ie.size + j < (0 + vs.length) * ie.size := by
          have := Nat.mul_le_mul_right ie.size (show i + 1 ≤ vs.length by omega)
          rw [Nat.add_mul] at this; simp; omega
        rw [f4 _ (by simp) hlt]
        simp only [Nat.zero_mul, Nat.sub_zero]
        rw [hflat.2 i j hi hj, k1]
        exact u1)
    have hyl : ys.length = len := by rw [b3, hpl]
    refine ⟨_, _, _, _, _, _, ?_, h10, n1, n2 _⟩
    simp only [execOp, ho, Instr.buildSlice]
    simp only [Sem.run_bind, run_underlying hu, Result.andThen_ok, run_size ht h3, hparts]
    rw [if_neg (by omega)]
    rw [hyl]
    by_cases hl0 : len * ie.size = 0
    · have hl1 : len = 0 := by rcases Nat.mul_eq_zero.1 hl0 with h | h; exact h; exact absurd h h4
      have hvs : vs = [] := List.eq_nil_of_length_eq_zero (by rw [hvl, hl1])
      have hc0 : cells' = #[] := by apply Array.eq_empty_of_size_eq_zero; rw [f2]; simp [hl1]
      subst hl1
      simp [hvs, Instr.fill, newRow, hc0]
      congr 2
      simp
    · rw [if_neg hl0]
      simp only [Sem.run_bind, hz, Result.andThen_ok, Sem.run_pure, f1, newRow, run_newObj]
      rfl

def stepMakeSlice (tab : Tab) (env : Env) (H : Heap) (nx : Nat) (K : PV → Nat → Heap → Prop) (t : Nat) (x y : Operand) : Prop :=
  ∃ i e ie k k2 q r, tab t = some i ∧ i.kd = .slice e ∧ tab e = some ie ∧ ie.size ≠ 0 ∧ ev env x = some (.f (.v (.int k q))) ∧ ev env y = some (.f (.v (.int k2 r))) ∧ 0 ≤ q ∧ q ≤ r ∧
    (ie.bytes : Int) * r ≤ 281474976710656 ∧ r ≤ 9223372036854775807 ∧
    K (.ref nx 0 none) (nx + 1) ((nx, .buf true ie.size (List.replicate q.toNat (if ie.kd.agg then .agg (ie.zero.map .v) else .v (ie.zero.headD undef)))) :: H)

theorem does_makeSlice (ht : TabOk P tab) {t : Nat} {x y : Operand} (ho : o.op = .makeSlice t x y) (hone : ∀ e ie, tab e = some ie → ie.kd.agg = false → ie.size = 1) (h : stepMakeSlice tab env H nx K t x y) : Does P o c nx env H K :=
  Does.value fun φ tmps w hs => by
    obtain ⟨i, e, ie, k, k2, q, r, h1, h2, h3, h4, h5, h6, h7, h8, h9, h10, h11⟩ := h
    have hu := under_slice ht h1 h2
    have e1 := (ev_rep hs h5).v_inv
    have e2 := (ev_rep hs h6).v_inv
    obtain ⟨ti, z, z1, z2, z3, z4, z5, z6⟩ := (ht e ie h3).info
    have hzl := (ht e ie h3).len
    have hrun := run_make (P := P) w t e ti z hu z1 z4 k k2 q r h7 h8 (by rw [z3]; exact h9) h10
    have hcell : ∀ (j : Nat), j < r.toNat * ie.size → (madeCells z.cells (r.toNat * ti.size))[j]? = some (ie.zero[j % ie.size]'(by rw [hzl]; exact Nat.mod_lt _ (by omega))) := by
      intro j hj
      have hm : j % ie.size < ie.zero.length := by rw [hzl]; exact Nat.mod_lt _ (by omega)
      simp [madeCells, z2, hj, z5, hzl]
      rw [List.getElem?_eq_getElem hm]; rfl
    obtain ⟨n1, n2⟩ := hs.newBuf (w' := w.alloc (.cells (madeCells z.cells (r.toNat * ti.size)) e)) (sz := ie.size) (cap := r.toNat)
      (ys := List.replicate q.toNat (if ie.kd.agg then .agg (ie.zero.map .v) else .v (ie.zero.headD undef))) (arr := madeCells z.cells (r.toNat * ti.size)) (e := e) rfl rfl rfl rfl
      (by simp; omega) (by simp [size_madeCells, z2])
      (fun i y hy => by
        rw [List.getElem?_replicate] at hy
        split at hy
        · cases hy
          cases ha : ie.kd.agg with
          | true => simp [FV.cells, hzl]
          | false => simp [FV.cells, hone e ie h3 ha]
        · cases hy)
      (fun i y j d hy hd => by
        rw [List.getElem?_replicate] at hy
        split at hy
        · rename_i hlt
          cases hy
          have hj : j < ie.size ∧ d = .v (ie.zero.getD j undef) := by
            cases ha : ie.kd.agg with
            | true =>
              simp only [ha, if_true, FV.cells, List.getElem?_map, Option.map_eq_some_iff] at hd
              obtain ⟨v, v1, v2⟩ := hd
              refine ⟨by rw [← hzl]; exact (List.getElem?_eq_some_iff.1 v1).1, ?_⟩
              rw [← v2, List.getD_eq_getElem?_getD, v1]; rfl
            | false =>
              simp only [ha, Bool.false_eq_true, if_false, FV.cells] at hd
              cases j with
              | zero =>
                simp at hd
                refine ⟨by omega, ?_⟩
                rw [← hd, List.getD_eq_getElem?_getD]; simp [List.head?_eq_getElem?]
              | succ j => simp at hd
          obtain ⟨hj, rfl⟩ := hj
          have hidx : i * ie.size + j < r.toNat * ie.size := by
            have := Nat.mul_le_mul_right ie.size (show i + 1 ≤ r.toNat by omega)
            rw [Nat.add_mul] at this; omega
          have hmod : (i * ie.size + j) % ie.size = j := by rw [Nat.mul_comm, Nat.mul_add_mod]; exact Nat.mod_eq_of_lt hj
          have hjl : j < ie.zero.length := by omega
          refine ⟨ie.zero[j], by rw [hcell _ hidx]; simp [hmod], (ht e ie h3).ones _ (by simp), ?_⟩
          have : ie.zero.getD j undef = ie.zero[j] := by simp [List.getD_eq_getElem?_getD, hjl]
          rw [this]; exact .v _
        · cases hy)
    rw [List.length_replicate] at n1 n2
    refine ⟨_, _, _, _, _, _, ?_, h11, n1, n2 _⟩
    simp only [execOp, ho, e1, e2]
    rw [Sem.run_bind, hrun]; rfl
end
end Go.Proofs.YtnajikpdnccilaaGreat.Pv
