/- The operations on memory: variables, fields, elements. -/
import Derived.Test.YtnajikpdnccilaaGreatPvC
set_option linter.unusedVariables false
set_option linter.unusedSimpArgs false
namespace Go.Proofs.YtnajikpdnccilaaGreat.Pv
open Go

def PV.storable : PV → Bool
  | .agg _ => true
  | .f (.agg _) => true
  | x => x.one

theorem RepF.one {w : World} {S : Nat → Nat → Prop} {x : FV} {v : Value} (h : RepF w S x v) (h1 : PV.one (.f x) = true) : Pv.one v = true := by
  cases h with
  | v x => exact h1
  | agg => simp [PV.one] at h1
  | slnil => rfl
  | slemp => rfl
  | sl => rfl
  | ro => rfl

theorem Rep.one {φ : Nat → Phys} {nx : Nat} {w : World} {S : Nat → Nat → Prop} {x : PV} {v : Value} (h : Rep φ nx w S x v) (h1 : x.one = true) : Pv.one v = true := by
  cases h with
  | f h => exact h.one h1
  | ptr => rfl
  | refnil => rfl
  | ref => rfl
  | ep => rfl
  | agg => simp [PV.one] at h1
  | tup => simp [PV.one] at h1
  | clo => rfl

theorem cells_of_one {v : Value} (h : Pv.one v = true) : v.cells = #[v] := by cases v <;> simp_all [Value.cells, Value.oneCell']

theorem Rep.cells {φ : Nat → Phys} {nx : Nat} {w : World} {S : Nat → Nat → Prop} {x : PV} {v : Value} (h : Rep φ nx w S x v) (h1 : x.storable = true) :
    v.cells.size = x.cells.length ∧ ∀ (i : Nat) c, x.cells[i]? = some c → ∃ u, v.cells[i]? = some u ∧ Pv.one u = true ∧ Rep φ nx w S c u := by
  have plain : x.one = true → x.cells = [x] → v.cells.size = x.cells.length ∧ ∀ (i : Nat) c, x.cells[i]? = some c → ∃ u, v.cells[i]? = some u ∧ Pv.one u = true ∧ Rep φ nx w S c u := by
    intro ho hc
    have hv := h.one ho
    rw [cells_of_one hv, hc]
    refine ⟨rfl, fun i c hi => ?_⟩
    cases i with
    | zero => simp at hi; subst hi; exact ⟨v, rfl, hv, h⟩
    | succ i => simp at hi
  cases h with
  | agg cs vs hs ho hr =>
    refine ⟨hs, fun i c hi => ?_⟩
    have hlt : i < vs.size := by rw [hs]; exact (List.getElem?_eq_some_iff.1 hi).1
    exact ⟨vs[i], by simp [Value.cells, hlt], ho i _ (by simp [hlt]), hr i c _ hi (by simp [hlt])⟩
  | @f y _ hf =>
    cases hf with
    | agg cs vs hs ho hr =>
      refine ⟨by simp [Value.cells, PV.cells, hs], fun i c hi => ?_⟩
      simp only [PV.cells, List.getElem?_map] at hi
      cases hc : cs[i]? with
      | none => rw [hc] at hi; cases hi
      | some d =>
        rw [hc] at hi; simp at hi; subst hi
        have hlt : i < vs.size := by rw [hs]; exact (List.getElem?_eq_some_iff.1 hc).1
        exact ⟨vs[i], by simp [Value.cells, hlt], ho i _ (by simp [hlt]), .f (hr i d _ hc (by simp [hlt]))⟩
    | v x => exact plain h1 rfl
    | slnil => exact plain h1 rfl
    | slemp => exact plain h1 rfl
    | sl => exact plain h1 rfl
    | ro => exact plain h1 rfl
  | ptr => exact plain h1 rfl
  | refnil => exact plain h1 rfl
  | ref => exact plain h1 rfl
  | ep => exact plain h1 rfl
  | tup => simp [PV.storable, PV.one] at h1
  | clo => exact plain h1 rfl

def allF : List PV → Option (List FV)
  | [] => some []
  | .f x :: t => (allF t).map (x :: ·)
  | _ :: _ => none

/-- A struct or an array out of its cells: told without names where that can be. -/
def mkAgg (cs : List PV) : PV := match allF cs with | some l => .f (.agg l) | none => .agg cs

theorem allF_map {cs : List PV} : ∀ {l : List FV}, allF cs = some l → cs = l.map .f := by
  induction cs with
  | nil => intro l h; simp [allF] at h; subst h; rfl
  | cons x t ih =>
    intro l h
    cases x with
    | f x =>
      simp only [allF, Option.map_eq_some_iff] at h
      obtain ⟨m, h1, rfl⟩ := h
      rw [ih h1]; rfl
    | _ => simp [allF] at h

theorem Rep.mkAgg {φ : Nat → Phys} {nx : Nat} {w : World} {S : Nat → Nat → Prop} {cs : List PV} {vs : Array Value} (hs : vs.size = cs.length) (ho : ∀ (i : Nat) u, vs[i]? = some u → Pv.one u = true)
    (hr : ∀ (i : Nat) c u, cs[i]? = some c → vs[i]? = some u → Rep φ nx w S c u) : Rep φ nx w S (Pv.mkAgg cs) (.agg vs) := by
  unfold Pv.mkAgg
  split
  · rename_i l hl
    have e := allF_map hl
    subst e
    refine .f (.agg l vs (by simpa using hs) ho fun i c u h1 h2 => ?_)
    have := hr i (.f c) u (by simp [h1]) h2
    cases this with | f h => exact h
  · exact .agg cs vs hs ho hr

section
variable {P : Program} {tab : Tab} {c : Ctx} {nx : Nat} {env : Env} {H : Heap} {K : PV → Nat → Heap → Prop} {o : Oper}

theorem run_loads {P : Program} (w : World) (b off n : Nat) (vs : List Value) (hn : vs.length = n) (h : ∀ j v, vs[j]? = some v → w.cell? ⟨b, off + j, none⟩ = some v) :
    (loadCells ⟨b, off, none⟩ n).run P w = .ok vs.toArray w := by
  subst hn
  refine run_loadCells_list w ⟨b, off, none⟩ vs fun j v hv => ?_
  have : (⟨b, off, none⟩ : Addr).add j = ⟨b, off + j, none⟩ := by unfold Addr.add; split <;> simp_all
  rw [this]; exact h j v hv

theorem add_plain (b off j : Nat) : (⟨b, off, none⟩ : Addr).add j = ⟨b, off + j, none⟩ := by unfold Addr.add; split <;> simp_all

theorem run_isAgg (ht : TabOk P tab) {t : Nat} {i : TI} (h : tab t = some i) (w : World) : (isAgg t).run P w = .ok i.kd.agg w := by
  have hu := (ht t i h).under
  cases hk : i.kd <;> rw [hk] at hu <;> simp only [Under] at hu
  case struct fs => obtain ⟨F, hu, _⟩ := hu; simp [isAgg, run_underlying hu, Kd.agg]
  case func => obtain ⟨_, _, _, hu⟩ := hu; simp [isAgg, run_underlying hu, Kd.agg]
  all_goals simp [isAgg, run_underlying hu, Kd.agg]

theorem run_size (ht : TabOk P tab) {t : Nat} {i : TI} (h : tab t = some i) (w : World) : (sizeOf t).run P w = .ok i.size w := by
  obtain ⟨ti, z, h1, h2, _⟩ := (ht t i h).info
  simp [sizeOf, typeInfo, h1, h2]

/-- A load of consecutive cells. -/
theorem run_loadVar (ht : TabOk P tab) {t : Nat} {i : TI} (h : tab t = some i) (w : World) (b off : Nat) (vs : List Value) (hn : vs.length = i.size)
    (hc : ∀ (j : Nat) v, vs[j]? = some v → w.cell? ⟨b, off + j, none⟩ = some v) (h1 : i.kd.agg = false → i.size = 1) :
    (loadVar t ⟨b, off, none⟩).run P w = .ok (if i.kd.agg then .agg vs.toArray else vs.headD undef) w := by
  unfold loadVar
  rw [Sem.run_bind, run_isAgg ht h, Result.andThen_ok]
  cases ha : i.kd.agg with
  | true =>
    simp only [if_true, Sem.run_bind, run_size ht h, Result.andThen_ok, run_loads w b off i.size vs hn hc]
    rfl
  | false =>
    have := h1 ha
    rw [this] at hn
    match vs, hn with
    | [v], _ =>
      have hv := hc 0 v rfl
      simp only [Nat.add_zero] at hv
      simp [run_load, hv]

theorem exec_load {P : Program} {o : Oper} {t : Nat} {x : Operand} {tmps : Array Value} {w : World} {a : Addr} {r : Value} (ho : o.op = .load t x) (hv : (act tmps).eval x = .pointer (some a))
    (hrun : (loadVar t a).run P w = .ok r w) : (execOp (act tmps).eval o).run P w = .ok (.value r) w := by
  simp only [execOp, ho, Instr.loadAt, Instr.sureAddr, hv]
  simp only [Sem.run_bind, Sem.run_pure, Result.andThen_ok, hrun]

def stepBox (env : Env) (H : Heap) (nx : Nat) (K : PV → Nat → Heap → Prop) (x : Operand) : Prop :=
  ∃ pv, ev env x = some pv ∧ pv.storable = true ∧ K (.ptr nx 0) (nx + 1) ((nx, .obj pv.cells) :: H)

theorem StΦ.newObj {φ : Nat → Phys} {tmps : Array Value} {w : World} (hs : StΦ c nx env H φ tmps w) {x : PV} {v : Value} (hr : Rep φ nx w (SS c.So φ H) x v) (h1 : x.storable = true) (t : Nat) :
    StΦ c (nx + 1) env ((nx, .obj x.cells) :: H) (upd φ nx ⟨w.heap.size, 0, 0, 0, 0, false⟩) tmps (w.alloc (.cells v.cells t)) := by
  refine hs.push rfl rfl rfl rfl rfl fun hm => ?_
  obtain ⟨k1, k2⟩ := hr.cells h1
  simp only [SatO, upd_same]
  refine ⟨trivial, v.cells, t, heap_alloc_new w _, k1, fun i d hd => ?_⟩
  obtain ⟨u, a1, a2, a3⟩ := k2 i d hd
  exact ⟨u, a1, a2, a3.step (fun n hn => upd_ne _ _ (by omega)) (Nat.le_succ _) hm⟩

theorem does_box {e : Nat} {x : Operand} (ho : o.op = .box e x) (h : stepBox env H nx K x) : Does P o c nx env H K :=
  Does.value fun φ tmps w hs => by
    obtain ⟨pv, h1, h2, h3⟩ := h
    have hr := ev_rep hs h1
    refine ⟨_, _, _, _, _, _, ?_, h3, hs.newObj hr h2 e, .ptr (Nat.lt_succ_self _)⟩
    rw [upd_same]
    simp [execOp, ho, Instr.box, newVar, newRow]

def stepAlloc (tab : Tab) (H : Heap) (nx : Nat) (K : PV → Nat → Heap → Prop) (e : Nat) : Prop :=
  ∃ i, tab e = some i ∧ K (.ptr nx 0) (nx + 1) ((nx, .obj (i.zero.map fun v => .f (.v v))) :: H)

theorem zero_cells (ht : TabOk P tab) {t : Nat} {i : TI} (h : tab t = some i) : ∃ z, (∀ w, (zeroValue t).run P w = .ok z w) ∧ z.cells = i.zero.toArray := by
  obtain ⟨ti, z, h1, h2, h3, h4, h5, h6⟩ := (ht t i h).info
  exact ⟨z, fun w => by simp [zeroValue, typeInfo, h1, h4], h5⟩

theorem does_alloc (ht : TabOk P tab) {e : Nat} (ho : o.op = .alloc e) (h : stepAlloc tab H nx K e) : Does P o c nx env H K :=
  Does.value fun φ tmps w hs => by
    obtain ⟨i, h1, h2⟩ := h
    obtain ⟨z, hz, hc⟩ := zero_cells ht h1
    have hone := (ht e i h1).ones
    have := hs.newObj (x := .agg (i.zero.map fun v => .f (.v v))) (v := .agg i.zero.toArray)
      (.agg _ _ (by simp) (fun j u hu => hone u (by simp at hu; exact List.mem_of_getElem? hu)) (fun j d u h1 h2 => by
        simp only [List.getElem?_map, List.getElem?_toArray] at h1 h2
        rw [h2] at h1; simp at h1; subst h1; exact .f (.v u))) rfl e
    refine ⟨_, _, _, _, _, _, ?_, h2, this, .ptr (Nat.lt_succ_self _)⟩
    rw [upd_same]
    simp [execOp, ho, Instr.alloc, newVar, newRow, hz, hc]
    rfl

/-- Where a pointer leads. -/
def stepLoad (tab : Tab) (env : Env) (H : Heap) (nx : Nat) (K : PV → Nat → Heap → Prop) (t : Nat) (x : Operand) : Prop :=
  ∃ i, tab t = some i ∧ (i.kd.agg = false → i.size = 1) ∧
    ((∃ n off cs, ev env x = some (.ptr n off) ∧ look H n = some (.obj cs) ∧ off + i.size ≤ cs.length ∧
        K (if i.kd.agg then mkAgg ((cs.drop off).take i.size) else (cs.drop off).headD (.f (.v undef))) nx H) ∨
     (∃ y, ev env x = some (.f (.ro y)) ∧ y.cells.length = i.size ∧ (i.kd.agg = true → y = .agg y.cells) ∧ (i.kd.agg = false → y.cells = [y]) ∧ K (.f y) nx H) ∨
     (∃ n j off wr sz l y, ev env x = some (.ep n j off) ∧ look H n = some (.buf wr sz l) ∧ l[j]? = some y ∧ off + i.size ≤ y.cells.length ∧
        K (.f (if i.kd.agg then .agg ((y.cells.drop off).take i.size) else (y.cells.drop off).headD (.v undef))) nx H))

theorem cell_heap {w : World} {b : Nat} {arr : Array Value} {ty : Nat} {fr : Nat × Nat} (h : w.heap[b]? = some (.cells arr ty fr)) (off : Nat) : w.cell? ⟨b, off, none⟩ = arr[off]? := by
  simp [World.cell?, h]

theorem list_drop_head {α : Type} {l : List α} {n : Nat} {d x : α} (h : l[n]? = some x) : (l.drop n).headD d = x := by
  rw [List.headD_eq_head?_getD, List.head?_drop, h]; rfl

theorem does_load (ht : TabOk P tab) {t : Nat} {x : Operand} (ho : o.op = .load t x) (h : stepLoad tab env H nx K t x) : Does P o c nx env H K :=
  Does.pure fun φ tmps w hs => by
    obtain ⟨i, h1, hsz, h⟩ := h
    rcases h with ⟨n, off, cs, k1, k2, k3, k4⟩ | ⟨y, k1, k2, k3, k4, k5⟩ | ⟨n, j, off, wr, sz, l, y, k1, k2, k3, k4, k5⟩
    · have hr := ev_rep hs k1
      obtain ⟨hnx, hsat⟩ := hs.ok.obj n _ k2
      obtain ⟨hnil, arr, ty, a1, a2, a3⟩ := hsat
      generalize hv : (act tmps).eval x = v at hr
      cases hr
      have hrun := run_loadVar ht h1 w (φ n).blk off ((arr.toList.drop off).take i.size) (by simp; omega) (fun j v hj => by
        rw [cell_heap a1]
        simp only [List.getElem?_take, List.getElem?_drop, Array.getElem?_toList] at hj
        split at hj
        · exact hj
        · cases hj) hsz
      have hex := exec_load ho hv hrun
      refine ⟨_, _, hex, k4, ?_⟩
      · have hget : ∀ j, off + j < cs.length → ∃ d u, cs[off + j]? = some d ∧ arr[off + j]? = some u ∧ Pv.one u = true ∧ Rep φ nx w (SS c.So φ H) d u := by
          intro j hj
          obtain ⟨u, b1, b2, b3⟩ := a3 (off + j) cs[off + j] (by simp [hj])
          exact ⟨_, u, by simp [hj], b1, b2, b3⟩
        cases hagg : i.kd.agg with
        | true =>
          simp only [if_true]
          refine Rep.mkAgg (by simp; omega) (fun j u hu => ?_) (fun j d u hd hu => ?_)
          · simp only [List.getElem?_toArray, List.getElem?_take, List.getElem?_drop, Array.getElem?_toList] at hu
            split at hu
            · have hj : off + j < cs.length := by omega
              obtain ⟨d', u', b1, b2, b3, b4⟩ := hget j hj
              rw [b2] at hu; cases hu; exact b3
            · cases hu
          · simp only [List.getElem?_toArray, List.getElem?_take, List.getElem?_drop, Array.getElem?_toList] at hu hd
            split at hu
            · rename_i hlt
              rw [if_pos hlt] at hd
              have hj : off + j < cs.length := by omega
              obtain ⟨d', u', b1, b2, b3, b4⟩ := hget j hj
              rw [b1] at hd; rw [b2] at hu; cases hd; cases hu; exact b4
            · cases hu
        | false =>
          have := hsz hagg
          obtain ⟨d', u', b1, b2, b3, b4⟩ := hget 0 (by omega)
          simp only [Nat.add_zero] at b1 b2
          simp only [Bool.false_eq_true, if_false, this]
          rw [list_drop_head b1]
          have : ((arr.toList.drop off).take 1).headD undef = u' := by
            rw [List.headD_eq_head?_getD, List.head?_take, List.head?_drop]
            simp [b2]
          rw [this]; exact b4
    · have hr := ev_rep hs k1
      generalize hv : (act tmps).eval x = v at hr
      cases hr with
      | f hr =>
      cases hr with
      | ro _ b off val g1 g2 =>
      have hrun := run_loadVar ht h1 w b off ((List.range i.size).map val) (by simp) (fun j v hj => by
        simp only [List.getElem?_map, List.getElem?_range] at hj
        have hlt : j < i.size := by
          rcases Nat.lt_or_ge j i.size with h | h
          · exact h
          · simp [List.getElem?_eq_none (show (List.range i.size).length ≤ j by simpa using h)] at hj
        simp [hlt] at hj
        subst hj
        exact (g1 j y.cells[j] (by simp [k2, hlt])).1) hsz
      have hex := exec_load ho hv hrun
      refine ⟨_, _, hex, k5, ?_⟩
      · cases hagg : i.kd.agg with
        | true =>
          simp only [if_true]
          rw [k3 hagg]
          refine .f (.agg _ _ (by simp [k2]) (fun j u hu => ?_) (fun j d u hd hu => ?_))
          · simp only [List.getElem?_toArray, List.getElem?_map] at hu
            have hlt : j < i.size := by
              rcases Nat.lt_or_ge j i.size with h | h
              · exact h
              · simp [List.getElem?_eq_none (show (List.range i.size).length ≤ j by simpa using h)] at hu
            simp [hlt] at hu
            subst hu
            exact (g1 j y.cells[j] (by simp [k2, hlt])).2.2
          · have hlt : j < i.size := by rw [← k2]; exact (List.getElem?_eq_some_iff.1 hd).1
            simp [hlt] at hu
            subst hu
            exact g2 j d hd
        | false =>
          have hz := hsz hagg
          have hc := k4 hagg
          simp only [Bool.false_eq_true, if_false, hz]
          have := g2 0 y (by rw [hc]; rfl)
          simpa using Rep.f this
    · have hr := ev_rep hs k1
      obtain ⟨hnx, hsat⟩ := hs.ok.obj n _ k2
      generalize hv : (act tmps).eval x = v at hr
      cases hr with
      | ep _ hnil hlt =>
      obtain ⟨e1, e2, e3⟩ := hsat
      rcases e3 with ⟨e3, _⟩ | ⟨_, arr, ty, a1, a2, a3, a4, a5⟩
      · rw [hnil] at e3; cases e3
      · have hcl := a4 j y k3
        have hget : ∀ q, off + q < y.cells.length → ∃ d u, y.cells[off + q]? = some d ∧ arr[(φ n).base + j * sz + (off + q)]? = some u ∧ Pv.one u = true ∧ RepF w (SS c.So φ H) d u := by
          intro q hq
          obtain ⟨u, b1, b2, b3⟩ := a5 j y (off + q) y.cells[off + q] k3 (by simp [hq])
          exact ⟨_, u, by simp [hq], b1, b2, b3⟩
        have hrun := run_loadVar ht h1 w (φ n).blk ((φ n).base + j * sz + off) ((arr.toList.drop ((φ n).base + j * sz + off)).take i.size) (by
            simp
            have hl : j < l.length := (List.getElem?_eq_some_iff.1 k3).1
            have : j * sz + sz ≤ (φ n).cap * sz := by
              have := Nat.mul_le_mul_right sz (show j + 1 ≤ (φ n).cap by omega)
              rw [Nat.add_mul] at this; omega
            omega) (fun q v hq => by
          rw [cell_heap a1]
          simp only [List.getElem?_take, List.getElem?_drop, Array.getElem?_toList] at hq
          split at hq
          · exact hq
          · cases hq) hsz
        rw [e2] at hv
        have hex := exec_load ho hv hrun
        refine ⟨_, _, hex, k5, ?_⟩
        · cases hagg : i.kd.agg with
          | true =>
            simp only [if_true]
            have hlen : arr.size ≥ (φ n).base + j * sz + off + i.size := by
              have hl : j < l.length := (List.getElem?_eq_some_iff.1 k3).1
              have : j * sz + sz ≤ (φ n).cap * sz := by
                have := Nat.mul_le_mul_right sz (show j + 1 ≤ (φ n).cap by omega)
                rw [Nat.add_mul] at this; omega
              omega
            refine .f (.agg _ _ (by simp; omega) (fun q u hu => ?_) (fun q d u hd hu => ?_))
            · simp only [List.getElem?_toArray, List.getElem?_take, List.getElem?_drop, Array.getElem?_toList] at hu
              split at hu
              · obtain ⟨d', u', b1, b2, b3, b4⟩ := hget q (by omega)
                rw [show (φ n).base + j * sz + off + q = (φ n).base + j * sz + (off + q) by omega, b2] at hu; cases hu; exact b3
              · cases hu
            · simp only [List.getElem?_toArray, List.getElem?_take, List.getElem?_drop, Array.getElem?_toList] at hu hd
              split at hu
              · rename_i hq
                rw [if_pos hq] at hd
                obtain ⟨d', u', b1, b2, b3, b4⟩ := hget q (by omega)
                rw [show (φ n).base + j * sz + off + q = (φ n).base + j * sz + (off + q) by omega, b2] at hu
                rw [b1] at hd; cases hd; cases hu; exact b4
              · cases hu
          | false =>
            have hz := hsz hagg
            obtain ⟨d', u', b1, b2, b3, b4⟩ := hget 0 (by omega)
            simp only [Nat.add_zero] at b1 b2
            simp only [Bool.false_eq_true, if_false, hz]
            rw [list_drop_head b1]
            have : ((arr.toList.drop ((φ n).base + j * sz + off)).take 1).headD undef = u' := by
              rw [List.headD_eq_head?_getD, List.head?_take, List.head?_drop]
              simp [show (φ n).base + j * sz + off = (φ n).base + j * sz + off from rfl, b2]
            rw [this]; exact .f b4
end
end Go.Proofs.YtnajikpdnccilaaGreat.Pv
