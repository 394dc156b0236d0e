/- What one operation does: new things, stores, rows of parts. -/
import Derived.Test.YtnajikpdnccilaaGreatPvMR
set_option linter.unusedVariables false
set_option linter.unusedSimpArgs false
namespace Go.Proofs.YtnajikpdnccilaaGreat.Pv.M
open Go

section
variable {ρ : Nat → Int} {P : Program} {D : Dm} {o : Oper} {c : Ctx} {nx : Nat} {env : Env} {H : Heap} {φ : Nat → Ph} {tmps : Array Value} {w w' : World}
theorem upd_old {p : Ph} : ∀ n, n < nx → updM φ nx p n = φ n := fun n hn => updM_ne _ _ (by omega)
/-- A new row of cells. -/
theorem St.newCells (hs : St ρ c nx env H φ tmps w) {l : List MV} {arr : Array Value} {e : Nat} (hh : w'.heap = w.heap.push (.cells arr e)) (ho : w'.os = w.os) (ht : w'.tape = w.tape) (hu : w'.output = w.output)
    (hc : Cells ρ φ nx 0 l arr) : St ρ c (nx + 1) env ((nx, .cells l) :: H) (updM φ nx ⟨w.heap.size, 0, arr.size⟩) tmps w' := by
  refine hs.push hh ho ht hu rfl ⟨arr, e, ?_, ?_, fun i d hd => ?_⟩
  · rw [updM_same, hh]; simp
  · rw [updM_same]
  · obtain ⟨u, a, b, g⟩ := hc i d hd
    exact ⟨u, by rw [updM_same]; exact a, b, g.step upd_old (Nat.le_succ _)⟩
theorem zero_cellsM {z : List MV} {u : Value} (h1 : z = u.cells.toList.map ofV1) (h2 : ∀ x ∈ u.cells.toList, one x = true) : Cells ρ φ nx 0 z u.cells := by
  intro i d hd
  rw [h1, List.getElem?_map, Array.getElem?_toList] at hd
  obtain ⟨x, hx, rfl⟩ := Option.map_eq_some_iff.1 hd
  exact ⟨x, by rw [Nat.zero_add]; exact hx, h2 x (by rw [← Array.getElem?_toList] at hx; exact List.mem_of_getElem? hx), ofV1_rel ρ φ nx x⟩
theorem oAlloc_ok {t : Nat} : OpOk ρ P (oAlloc P t) (.alloc t) := fun {call env nx H k} _ h => by
  obtain ⟨z, h1, h⟩ := ob_inv h
  obtain ⟨u, u1, u2, u3⟩ := tzero_run h1
  refine ⟨_, _, _, fun o c ho => DoesB.value fun φ tmps w hs => ?_, h, (by first | exact ⟨[], rfl⟩ | exact ⟨[_], rfl⟩ | exact ⟨[_, _], rfl⟩)⟩
  have hn := hs.newCells (w' := w.alloc (.cells u.cells t)) (l := z) (arr := u.cells) (e := t) rfl rfl rfl rfl (zero_cellsM u2 u3)
  refine ⟨_, .pointer (some ⟨w.heap.size, 0, none⟩), _, ?_, hn, ?_, upd_old, Nat.le_succ _⟩
  · simp [execOp, ho, Instr.alloc, newVar, newRow, u1]
  · have := Rel.ptr (ρ := ρ) (φ := updM φ nx ⟨w.heap.size, 0, u.cells.size⟩) (nx := nx + 1) (off := 0) (Nat.lt_succ_self nx)
    rw [updM_same] at this
    exact this
theorem cells_ofM {a : MV} {v : Value} (hr : Rel ρ φ nx a v) (h1 : allB oneM (cellsOf a) = true) : Cells ρ φ nx 0 (cellsOf a) v.cells ∧ v.cells.size = (cellsOf a).length := by
  obtain ⟨g1, g2⟩ := hr.cells (fun x hx => allB_inv h1 x hx)
  refine ⟨fun i d hd => ?_, g1⟩
  obtain ⟨u, a1, a2, a3⟩ := g2 i d hd
  exact ⟨u, by rw [Nat.zero_add]; exact a1, a2, a3⟩
theorem oBox_ok {t : Nat} {x : Operand} : OpOk ρ P (oBox t x) (.box t x) := fun {call env nx H k} _ h => by
  obtain ⟨a, h1, h⟩ := ob_inv h
  obtain ⟨h2, h⟩ := oc_inv h
  refine ⟨_, _, _, fun o c ho => DoesB.value fun φ tmps w hs => ?_, h, (by first | exact ⟨[], rfl⟩ | exact ⟨[_], rfl⟩ | exact ⟨[_, _], rfl⟩)⟩
  obtain ⟨c1, c2⟩ := cells_ofM (ev_rel hs h1) h2
  have hn := hs.newCells (w' := w.alloc (.cells ((act tmps).eval x).cells t)) (e := t) rfl rfl rfl rfl c1
  refine ⟨_, .pointer (some ⟨w.heap.size, 0, none⟩), _, ?_, hn, ?_, upd_old, Nat.le_succ _⟩
  · simp [execOp, ho, Instr.box, newVar, newRow]
  · have := Rel.ptr (ρ := ρ) (φ := updM φ nx ⟨w.heap.size, 0, ((act tmps).eval x).cells.size⟩) (nx := nx + 1) (off := 0) (Nat.lt_succ_self nx)
    rw [updM_same] at this
    exact this
/-- Cells of its own are written. -/
theorem St.laid (hs : St ρ c nx env H φ tmps w) {n off : Nat} {l l' cs : List MV} (hl : look H n = some (.cells l)) (hp : M.put cs off l = some l') {news : List Value} (hn : news.length = cs.length) (hc : Cells ρ φ nx 0 cs news.toArray) :
    ∃ w', (storeCells ⟨(φ n).blk, (φ n).base + off, none⟩ news 0).run P w = .ok () w' ∧ St ρ c nx env ((n, .cells l') :: H) φ tmps w' := by
  obtain ⟨arr, ty, a1, a2, a3⟩ := (hs.ok.obj n _ hl).2
  obtain ⟨p1, p2⟩ := put_some hp
  by_cases hz : cs.length = 0
  · have : news = [] := List.eq_nil_of_length_eq_zero (by omega)
    subst this
    refine ⟨w, by simp [storeCells], hs.write hl (by simp) rfl rfl rfl rfl (fun b _ => rfl) ⟨arr, ty, a1, a2, fun i d hd => a3 i d ?_⟩⟩
    rw [put_get hp] at hd
    split at hd
    · exact hd
    · rw [if_neg (by omega)] at hd; exact hd
  have hfit : (φ n).base + off + news.length ≤ arr.size := by
    obtain ⟨u, b1, _⟩ := a3 (off + cs.length - 1) l[off + cs.length - 1] (by rw [List.getElem?_eq_getElem (by omega)])
    have := (Array.getElem?_eq_some_iff.1 b1).1
    omega
  have hst := run_storeCells_at P (φ n).blk ((φ n).base + off) ty news 0 arr w a1 (by omega) (fun u hu => by
    obtain ⟨q, hq⟩ := List.getElem?_of_mem hu
    have hlt : q < cs.length := by rw [← hn]; exact (List.getElem?_eq_some_iff.1 hq).1
    obtain ⟨u', b1, b2, b3⟩ := hc q cs[q] (by simp [hlt])
    simp [hq] at b1
    rw [b1]; exact b2)
  simp only [Nat.add_zero] at hst
  refine ⟨_, hst, hs.write hl (by simp) rfl rfl rfl (by simp) (fun b hb => setRow_other w _ b _ hb) ?_⟩
  have e : arr.toList.take ((φ n).base + off) ++ news ++ arr.toList.drop ((φ n).base + off + news.length) = splice arr.toList ((φ n).base + off) news := rfl
  refine ⟨_, ty, setRow_heap w _ arr _ ty _ a1, ?_, fun i d hd => ?_⟩
  · rw [e, List.size_toArray, splice_length (by simp; omega), ← a2]; simp
  · rw [e, List.getElem?_toArray, splice_get (by simp; omega)]
    rw [put_get hp] at hd
    by_cases q1 : i < off
    · rw [if_pos q1] at hd
      rw [if_pos (by omega)]
      obtain ⟨u, b1, b2, b3⟩ := a3 i d hd
      exact ⟨u, by simpa using b1, b2, b3⟩
    · rw [if_neg q1] at hd
      rw [if_neg (by omega)]
      by_cases q2 : i < off + cs.length
      · rw [if_pos q2] at hd
        rw [if_pos (by omega)]
        obtain ⟨u, b1, b2, b3⟩ := hc _ d hd
        refine ⟨u, ?_, b2, b3⟩
        rw [show (φ n).base + i - ((φ n).base + off) = i - off by omega]
        simpa using b1
      · rw [if_neg q2] at hd
        rw [if_neg (by omega)]
        obtain ⟨u, b1, b2, b3⟩ := a3 i d hd
        exact ⟨u, by simpa using b1, b2, b3⟩
theorem st_inv {n off : Nat} {cs : List MV} {κ : Heap → Bool} (h : st H n off cs κ = true) : ∃ l l', look H n = some (.cells l) ∧ put cs off l = some l' ∧ κ ((n, .cells l') :: H) = true := by
  obtain ⟨o, h1, h⟩ := ob_inv h
  obtain ⟨l, rfl, h⟩ := onCells_inv h
  obtain ⟨l', h2, h⟩ := ob_inv h
  exact ⟨l, l', h1, h2, h⟩
theorem oStore_ok {t : Nat} {x y : Operand} : OpOk ρ P (oStore P t x y) (.store t x y) := fun {call env nx H k} _ h => by
  obtain ⟨a, h1, h⟩ := ob_inv h
  obtain ⟨n, off, rfl, h⟩ := onP_inv h
  obtain ⟨b, h2, h⟩ := ob_inv h
  obtain ⟨sz, h3, h⟩ := ob_inv h
  obtain ⟨h4, h⟩ := oc_inv h
  obtain ⟨h5, h⟩ := oc_inv h
  obtain ⟨l, l', h6, h7, h⟩ := st_inv h
  have hsz := Nat.eq_of_beq_eq_true h5
  rw [len_eq] at hsz
  refine ⟨_, nx, _, fun o c ho => DoesB.skip fun φ tmps w hs => ?_, h, (by first | exact ⟨[], rfl⟩ | exact ⟨[_], rfl⟩ | exact ⟨[_, _], rfl⟩)⟩
  have hr := ev_rel hs h1
  obtain ⟨c1, c2⟩ := cells_ofM (ev_rel hs h2) h4
  generalize hv : (act tmps).eval x = u at hr
  cases hr with
  | ptr g1 =>
    obtain ⟨w', k1, k2⟩ := hs.laid (P := P) h6 h7 (news := ((act tmps).eval y).cells.toList) (by simpa using c2) (by simpa using c1)
    exact ⟨φ, w', exec_store ho hv rfl (tsize_run h3 w) (by rw [c2, hsz]) k1, k2, fun _ _ => rfl, Nat.le_refl _⟩
/-! ### Parts -/
theorem fillG_ok (hs : St ρ c nx env H φ tmps w) {place : Nat → Option (Nat × Nat)} : ∀ {ps : List (Nat × Operand)} {cs ds : List MV} {arr : Array Value}, fillG env place ps cs = some ds → cs.length = arr.size → Cells ρ φ nx 0 cs arr →
    ∃ arr', Instr.fill place arr (ps.map fun p => (p.1, (act tmps).eval p.2)) = some arr' ∧ ds.length = arr'.size ∧ arr'.size = arr.size ∧ Cells ρ φ nx 0 ds arr'
  | [], cs, ds, arr, h, hl, hc => by
    have : some cs = some ds := h
    cases this
    exact ⟨arr, rfl, hl, rfl, hc⟩
  | p :: ps, cs, ds, arr, h, hl, hc => by
    have h : bo (place p.1) (fun q => bo (ev env p.2) fun v => bi (allB oneM (cellsOf v)) (bi (Nat.beq (len (cellsOf v)) q.2) (bo (put (cellsOf v) q.1 cs) (fillG env place ps)) none) none) = some ds := h
    obtain ⟨q, h1, h⟩ := bo_some h
    obtain ⟨v, h2, h⟩ := bo_some h
    obtain ⟨h3, h⟩ := bi_some h
    obtain ⟨h4, h⟩ := bi_some h
    obtain ⟨cs', h5, h⟩ := bo_some h
    have hsz := Nat.eq_of_beq_eq_true h4
    rw [len_eq] at hsz
    obtain ⟨c1, c2⟩ := cells_ofM (ev_rel hs h2) h3
    obtain ⟨p1, p2⟩ := put_some h5
    have hfit : q.1 + ((act tmps).eval p.2).cells.size ≤ arr.size := by omega
    obtain ⟨arr', a1, a2, a3, a4⟩ := fillG_ok hs (arr := lay arr q.1 ((act tmps).eval p.2).cells) h (by rw [put_length h5, lay_size, hl]) (fun i d hd => by
      rw [Nat.zero_add, lay_get hfit]
      rw [put_get h5] at hd
      by_cases q1 : i < q.1
      · rw [if_pos q1] at hd
        rw [if_neg (by omega)]
        have := hc i d hd
        rw [Nat.zero_add] at this; exact this
      · rw [if_neg q1] at hd
        by_cases q2 : i < q.1 + (cellsOf v).length
        · rw [if_pos q2] at hd
          rw [if_pos (by omega)]
          have := c1 (i - q.1) d hd
          rw [Nat.zero_add] at this; exact this
        · rw [if_neg q2] at hd
          rw [if_neg (by omega)]
          have := hc i d hd
          rw [Nat.zero_add] at this; exact this)
    refine ⟨arr', ?_, a2, by rw [a3, lay_size], a4⟩
    simp only [List.map_cons]
    rw [fill_cons (off := q.1) (size := q.2) h1 (by rw [c2, hsz]) (by omega)]
    exact a1
theorem parts_list (tmps : Array Value) (ps : Array (Nat × Operand)) : (ps.map fun (i, x) => (i, (act tmps).eval x)).toList = ps.toList.map fun p => (p.1, (act tmps).eval p.2) := by simp
theorem oBuild_ok {t : Nat} {ps : Array (Nat × Operand)} : OpOk ρ P (oBuild P t ps) (.build t ps) := fun {call env nx H k} _ h => by
  obtain ⟨z, h1, h⟩ := ob_inv h
  obtain ⟨pl, h2, h⟩ := ob_inv h
  obtain ⟨cs, h3, h⟩ := ob_inv h
  obtain ⟨u, u1, u2, u3⟩ := tzero_run h1
  refine ⟨_, nx, H, fun o c ho => DoesB.pure fun φ tmps w hs => ?_, h, (by first | exact ⟨[], rfl⟩ | exact ⟨[_], rfl⟩ | exact ⟨[_, _], rfl⟩)⟩
  obtain ⟨arr, a1, a2, a3, a4⟩ := fillG_ok hs h3 (arr := u.cells) (by rw [u2]; simp) (zero_cellsM u2 u3)
  refine ⟨.agg arr, ?_, ?_⟩
  · unfold tplaces at h2
    split at h2
    · rename_i F hu
      obtain ⟨e1, h2⟩ := bi_some h2
      cases h2
      have hsz : ∀ f ∈ F.toList, ∃ n, tsize P f.type = some n := fun f hf => Option.isSome_iff_exists.1 (allB_inv e1 f hf)
      let places : List (Nat × Nat) := F.toList.map fun f => (f.offset, (tsize P f.type).getD 0)
      have hm : (F.mapM fun (f : Field) => do pure (f.offset, ← sizeOf f.type)).run P w = .ok places.toArray w := by
        rw [Array.mapM_eq_mapM_toList]
        rw [Sem.run_map]
        rw [run_placesAny (places := places) w (fun q f hf => ?_) (by simp [places])]
        · rfl
        · obtain ⟨n, hn⟩ := hsz f (List.mem_of_getElem? hf)
          exact ⟨n, fun w => tsize_run hn w, by simp only [places, List.getElem?_map, hf, Option.map_some, hn, Option.getD_some]⟩
      have hpl : (fun q => bo (nth F.toList q) fun f => bo (tsize P f.type) fun n => some (f.offset, n)) = (places.toArray[·]?) := by
        funext q
        rw [nth_eq]
        simp only [places, List.getElem?_toArray, List.getElem?_map]
        cases hq : F.toList[q]? with
        | none => rfl
        | some f =>
          obtain ⟨n, hn⟩ := hsz f (List.mem_of_getElem? hq)
          simp only [Option.map_some, hn, Option.getD_some]
          show bo (tsize P f.type) (fun n => some (f.offset, n)) = _
          rw [hn]; rfl
      rw [hpl] at a1
      simp only [execOp, ho, Instr.build]
      simp only [Sem.run_bind, u1, Result.andThen_ok, run_underlying hu, hm, parts_list, a1]
      rfl
    · rename_i n e hu
      split at h2
      · rename_i sz hz
        cases h2
        have hpl : plA sz = fun i => some (i * sz, sz) := by funext i; rfl
        rw [hpl] at a1
        simp only [execOp, ho, Instr.build]
        simp only [Sem.run_bind, u1, Result.andThen_ok, run_underlying hu, tsize_run hz, parts_list, a1]
        rfl
      · cases h2
    · cases h2
  · refine .agg cs arr a2.symm (fun i x hx => ?_) (fun i d x hd hx => ?_)
    · have hlt : i < cs.length := by rw [a2]; exact (Array.getElem?_eq_some_iff.1 hx).1
      obtain ⟨u', b1, b2, b3⟩ := a4 i cs[i] (by simp [hlt])
      rw [Nat.zero_add, hx] at b1; cases b1; exact b2
    · obtain ⟨u', b1, b2, b3⟩ := a4 i d hd
      rw [Nat.zero_add, hx] at b1; cases b1; exact b3
theorem trow_some {t : Nat} {r : Nat × Nat × List MV} (h : trow P t = some r) : ∃ e i u, P.underlying t = some (.slice e) ∧ P.info? e = some i ∧ i.size = r.1 ∧ i.bytes = r.2.1 ∧ (∀ w, (zeroValue e).run P w = .ok u w) ∧ r.2.2 = u.cells.toList.map ofV1 ∧ (∀ x ∈ u.cells.toList, one x = true) ∧ u.cells.size = r.1 ∧ 1 ≤ r.1 := by
  unfold trow at h
  split at h
  · rename_i e hu
    split at h
    · rename_i i hi
      obtain ⟨z, h1, h⟩ := bo_some h
      obtain ⟨h2, h⟩ := bi_some h
      obtain ⟨h3, h⟩ := bi_some h
      cases h
      obtain ⟨u, u1, u2, u3⟩ := tzero_run h1
      have h3 := Nat.eq_of_beq_eq_true h3
      rw [len_eq, u2] at h3
      exact ⟨e, i, u, hu, hi, rfl, rfl, u1, u2, u3, by simpa using h3, Nat.le_of_ble_eq_true h2⟩
    · cases h
  · cases h
/-- What is in a new row at first. -/
theorem rows_cells {n sz : Nat} {u : Value} (h0 : 1 ≤ sz) (h1 : u.cells.size = sz) (h2 : ∀ x ∈ u.cells.toList, one x = true) :
    (rpt n (u.cells.toList.map ofV1)).length = n * sz ∧ Cells ρ φ nx 0 (rpt n (u.cells.toList.map ofV1)) ((Array.range (n * sz)).map (u.cells[· % u.cells.size]!)) := by
  have key : ∀ n, (rpt n (u.cells.toList.map ofV1)).length = n * sz ∧ ∀ i, i < n * sz → (rpt n (u.cells.toList.map ofV1))[i]? = (u.cells[i % sz]?).map ofV1 := by
    intro n
    induction n with
    | zero => exact ⟨by simp [rpt_eq], fun i hi => by simp at hi⟩
    | succ n ih =>
      have e : rpt (n + 1) (u.cells.toList.map ofV1) = u.cells.toList.map ofV1 ++ rpt n (u.cells.toList.map ofV1) := by rw [rpt_eq, rpt_eq, List.replicate_succ, List.flatten_cons]
      have hl : (u.cells.toList.map ofV1).length = sz := by simp [h1]
      rw [e, Nat.succ_mul]
      refine ⟨by rw [List.length_append, hl, ih.1]; omega, fun i hi => ?_⟩
      by_cases hlt : i < sz
      · rw [List.getElem?_append_left (by omega), List.getElem?_map, Array.getElem?_toList, Nat.mod_eq_of_lt hlt]
      · rw [List.getElem?_append_right (by omega), hl, ih.2 (i - sz) (by omega)]
        rw [show i % sz = (i - sz) % sz from by rw [← Nat.mod_eq_sub_mod (by omega)]]
  obtain ⟨k1, k2⟩ := key n
  refine ⟨k1, fun i d hd => ?_⟩
  have hi : i < n * sz := by rw [← k1]; exact (List.getElem?_eq_some_iff.1 hd).1
  rw [k2 i hi] at hd
  obtain ⟨x, hx, rfl⟩ := Option.map_eq_some_iff.1 hd
  refine ⟨x, ?_, h2 x (by rw [← Array.getElem?_toList] at hx; exact List.mem_of_getElem? hx), ofV1_rel ρ φ nx x⟩
  rw [Nat.zero_add]
  simp only [Array.getElem?_map, h1]
  rw [Array.getElem?_range, if_pos hi]
  simp only [Option.map_some]
  rw [getElem!_def, hx]
theorem info_size {t : Nat} {i : TypeInfo} (h : P.info? t = some i) (w : World) : (sizeOf t).run P w = .ok i.size w := by simp [sizeOf, typeInfo, h]
theorem oBuildSlice_ok {t n : Nat} {ps : Array (Nat × Operand)} : OpOk ρ P (oBuildSlice P t n ps) (.buildSlice t n ps) := fun {call env nx H k} _ h => by
  obtain ⟨r, h1, h⟩ := ob_inv h
  obtain ⟨h2, h⟩ := oc_inv h
  obtain ⟨cs, h3, h⟩ := ob_inv h
  have hle := Nat.le_of_ble_eq_true h2
  obtain ⟨e, i, u, hu, hi, e1, e2, u1, u2, u3, u4, u5⟩ := trow_some h1
  refine ⟨_, _, _, fun o c ho => DoesB.value fun φ tmps w hs => ?_, h, (by first | exact ⟨[], rfl⟩ | exact ⟨[_], rfl⟩ | exact ⟨[_, _], rfl⟩)⟩
  obtain ⟨z1, z2⟩ := rows_cells (ρ := ρ) (φ := φ) (nx := nx) (n := n) u5 u4 u3
  rw [← u2] at z1 z2
  obtain ⟨arr, a1, a2, a3, a4⟩ := fillG_ok hs h3 (arr := (Array.range (n * r.1)).map (u.cells[· % u.cells.size]!)) (by rw [z1]; simp) z2
  have hn := hs.newCells (w' := w.alloc (.cells arr e)) (e := e) rfl rfl rfl rfl a4
  have hpl : plA r.1 = fun i => some (i * r.1, r.1) := by funext i; rfl
  rw [hpl] at a1
  have hle' : ¬ (2 ^ 24 < n * r.1) := by have : n * r.1 ≤ 16777216 := hle; omega
  refine ⟨_, .slice (some ⟨w.heap.size, 0, none⟩) n n, _, ?_, hn, ?_, upd_old, Nat.le_succ _⟩
  · simp only [execOp, ho, Instr.buildSlice]
    simp only [Sem.run_bind, run_underlying hu, Result.andThen_ok, info_size hi, e1]
    rw [if_neg (by simpa using hle')]
    by_cases hz : n * r.1 = 0
    · have hn0 : n = 0 := by
        rcases Nat.mul_eq_zero.1 hz with h | h
        · exact h
        · omega
      have harr : arr = #[] := Array.eq_empty_of_size_eq_zero (by rw [a3]; simp [hz])
      have e0 : (Array.range (n * r.1)).map (u.cells[· % u.cells.size]!) = (#[] : Array Value) := Array.eq_empty_of_size_eq_zero (by simp [hz])
      have e0' : (Array.range (n * r.1)).map ((#[] : Array Value)[· % (#[] : Array Value).size]!) = (#[] : Array Value) := Array.eq_empty_of_size_eq_zero (by simp [hz])
      rw [e0] at a1
      simp only [hz, if_true, Sem.run_pure, Result.andThen_ok, Sem.run_bind, parts_list]
      rw [hz] at e0'
      rw [e0', a1]
      simp [newRow]
    · simp only [hz, if_false, Sem.run_bind, u1, Result.andThen_ok, Sem.run_pure, parts_list, a1]
      simp [newRow]
  · have hsz : arr.size = n * r.1 := by rw [a3]; simp
    refine Rel.sl (A := ⟨w.heap.size, 0, none⟩) (Nat.lt_succ_self nx) (Nat.le_refl n) (fun d hd => by cases hd; rfl) ?_ (fun _ => ?_)
    · rw [updM_same]; simp only; omega
    · rw [updM_same]
theorem oMakeSlice_ok {t : Nat} {x y : Operand} : OpOk ρ P (oMakeSlice P t x y) (.makeSlice t x y) := fun {call env nx H k} _ h => by
  obtain ⟨r, h1, h⟩ := ob_inv h
  obtain ⟨a, h2, h⟩ := ob_inv h
  obtain ⟨b, h3, h⟩ := ob_inv h
  obtain ⟨k1, l, ea, h7⟩ := natM_inv h
  obtain ⟨k2, cp, eb, h8⟩ := natM_inv h7
  obtain ⟨h4, h8⟩ := oc_inv h8
  obtain ⟨h5, h8⟩ := oc_inv h8
  obtain ⟨h6, h8⟩ := oc_inv h8
  rw [ea] at h2
  rw [eb] at h3
  have hlc := Nat.le_of_ble_eq_true h4
  have hby : r.2.1 * cp ≤ 140737488355328 := Nat.le_of_ble_eq_true h5
  have hcp := Nat.le_of_ble_eq_true h6
  obtain ⟨e, i, u, hu, hi, e1, e2, u1, u2, u3, u4, u5⟩ := trow_some h1
  refine ⟨_, _, _, fun o c ho => DoesB.value fun φ tmps w hs => ?_, h8, (by first | exact ⟨[], rfl⟩ | exact ⟨[_], rfl⟩ | exact ⟨[_, _], rfl⟩)⟩
  have x1 := nat_val (ev_rel hs h2)
  have x2 := nat_val (ev_rel hs h3)
  obtain ⟨z1, z2⟩ := rows_cells (ρ := ρ) (φ := φ) (nx := nx) (n := cp) u5 u4 u3
  rw [← u2] at z1 z2
  have hn := hs.newCells (w' := w.alloc (.cells ((Array.range (cp * r.1)).map (u.cells[· % u.cells.size]!)) e)) (e := e) rfl rfl rfl rfl z2
  have w1 : IntKind.i64.wrap (l : Int) = l := wrap_fit (by simp only [kminN]; omega) (by simp only [kmaxN]; omega)
  have w2 : IntKind.i64.wrap (cp : Int) = cp := wrap_fit (by simp only [kminN]; omega) (by simp only [kmaxN]; omega)
  have hb' : ((r.2.1 : Int) * (cp : Int)) ≤ 140737488355328 := by rw [← Int.natCast_mul]; omega
  refine ⟨_, .slice (some ⟨w.heap.size, 0, none⟩) l cp, _, ?_, hn, ?_, upd_old, Nat.le_succ _⟩
  · have hm1 : ¬ ((decide ((cp : Int) < 0) || decide (((r.2.1 : Nat) : Int) * (cp : Int) > 2 ^ 48)) = true) := by
      simp only [Bool.or_eq_true, decide_eq_true_eq, not_or]; omega
    have hm3 : ¬ ((l : Int) < 0) := by omega
    have hm4 : ¬ ((l : Int) > (cp : Int)) := by omega
    have hroom : ¬ (cp * r.2.1 > roomBytes) := by unfold roomBytes; rw [Nat.mul_comm]; omega
    simp only [execOp, ho, x1, x2, Instr.makeSlice]
    simp only [Sem.run_bind, run_underlying hu, Result.andThen_ok, asInt, asIntOf, Sem.run_pure, typeInfo, run_program, hi, w1, w2, e2]
    rw [if_neg (by simp only [Bool.or_eq_true, not_or, decide_eq_true_eq]; refine ⟨⟨?_, by simp⟩, by simpa using hm4⟩; simpa using hm1)]
    by_cases hz : cp * r.1 = 0
    · have e0 : ∀ (z : Array Value), (Array.range (cp * r.1)).map (z[· % z.size]!) = (#[] : Array Value) := fun z => Array.eq_empty_of_size_eq_zero (by simp [hz])
      simp only [askRoom, Int.toNat_natCast, hroom, if_false, Sem.run_pure, Result.andThen_ok, Sem.run_bind, info_size hi, e1, hz, if_true, newRow]
      have e1' := e0 #[]
      have e2' := e0 u.cells
      rw [hz] at e1' e2'
      have e3 : Array.range 0 = #[] := rfl
      simp [e1', e2', e3]
    · simp only [askRoom, Int.toNat_natCast, hroom, if_false, Sem.run_pure, Result.andThen_ok, Sem.run_bind, info_size hi, e1, hz, u1, newRow]
      simp
  · refine Rel.sl (A := ⟨w.heap.size, 0, none⟩) (Nat.lt_succ_self nx) hlc (fun d hd => by cases hd; rfl) ?_ (fun _ => ?_)
    · rw [updM_same]; simp
    · rw [updM_same]
end
end Go.Proofs.YtnajikpdnccilaaGreat.Pv.M
