/- Addresses of fields and elements, lengths, parts. -/
import Derived.Test.YtnajikpdnccilaaGreatPvE
set_option linter.unusedVariables false
set_option linter.unusedSimpArgs false
namespace Go.Proofs.YtnajikpdnccilaaGreat.Pv
open Go

section
variable {P : Program} {tab : Tab} {c : Ctx} {nx : Nat} {env : Env} {H : Heap} {K : PV → Nat → Heap → Prop} {o : Oper}

theorem under_slice (ht : TabOk P tab) {t e : Nat} {i : TI} (h : tab t = some i) (hk : i.kd = .slice e) : P.underlying t = some (.slice e) := by
  have := (ht t i h).under; rw [hk] at this; exact this
theorem under_arr (ht : TabOk P tab) {t n e : Nat} {i : TI} (h : tab t = some i) (hk : i.kd = .arr n e) : P.underlying t = some (.array n e) := by
  have := (ht t i h).under; rw [hk] at this; exact this
theorem under_str (ht : TabOk P tab) {t : Nat} {i : TI} (h : tab t = some i) (hk : i.kd = .str) : P.underlying t = some .string := by
  have := (ht t i h).under; rw [hk] at this; exact this

theorem run_struct (ht : TabOk P tab) {t : Nat} {i : TI} {fs : List (Nat × Nat)} (h : tab t = some i) (hk : i.kd = .struct fs) {q off ft : Nat} (hf : fs[q]? = some (off, ft)) :
    ∃ F f, P.underlying t = some (.struct F) ∧ F[q]? = some f ∧ f.offset = off ∧ f.type = ft := by
  have := (ht t i h).under
  rw [hk] at this
  obtain ⟨F, h1, h2⟩ := this
  rw [← h2] at hf
  simp only [List.getElem?_map, Option.map_eq_some_iff, Array.getElem?_toList] at hf
  obtain ⟨f, h3, h4⟩ := hf
  cases h4
  exact ⟨F, f, h1, h3, rfl, rfl⟩

/-- The cells of one part of a struct, as a value. -/
def partF (agg : Bool) (cs : List FV) (off n : Nat) : FV := if agg then .agg ((cs.drop off).take n) else (cs.drop off).headD (.v undef)

def stepFieldAddr (tab : Tab) (env : Env) (H : Heap) (nx : Nat) (K : PV → Nat → Heap → Prop) (s : Nat) (x : Operand) (q : Nat) : Prop :=
  ∃ i fs off ft it, tab s = some i ∧ i.kd = .struct fs ∧ fs[q]? = some (off, ft) ∧ tab ft = some it ∧ it.size ≠ 0 ∧ (it.kd.agg = false → it.size = 1) ∧
    ((∃ n o1, ev env x = some (.ptr n o1) ∧ K (.ptr n (o1 + off)) nx H) ∨
     (∃ cs, ev env x = some (.f (.ro (.agg cs))) ∧ off + it.size ≤ cs.length ∧ (it.kd.agg = false → (partF false cs off 1).isAgg = false) ∧ K (.f (.ro (partF it.kd.agg cs off it.size))) nx H) ∨
     (∃ n j o1, ev env x = some (.ep n j o1) ∧ K (.ep n j (o1 + off)) nx H))

theorem exec_fieldAddr (ht : TabOk P tab) {s q : Nat} {x : Operand} {tmps : Array Value} {w : World} {b off0 : Nat} {i : TI} {fs : List (Nat × Nat)} {off ft : Nat} {it : TI} (ho : o.op = .fieldAddr s x q)
    (h : tab s = some i) (hk : i.kd = .struct fs) (hf : fs[q]? = some (off, ft)) (hft : tab ft = some it) (hz : it.size ≠ 0)
    (hv : (act tmps).eval x = .pointer (some ⟨b, off0, none⟩)) : (execOp (act tmps).eval o).run P w = .ok (.value (.pointer (some ⟨b, off0 + off, none⟩))) w := by
  obtain ⟨F, f, h1, h2, h3, h4⟩ := run_struct ht h hk hf
  simp only [execOp, ho, Instr.fieldAt, hv, Instr.sureAddr, fieldPlace]
  simp only [Sem.run_bind, run_underlying h1, Result.andThen_ok, h2, Sem.run_pure, h4, run_size ht hft, hz, if_false, h3, add_plain]

theorem does_fieldAddr (ht : TabOk P tab) {s q : Nat} {x : Operand} (ho : o.op = .fieldAddr s x q) (h : stepFieldAddr tab env H nx K s x q) : Does P o c nx env H K :=
  Does.pure fun φ tmps w hs => by
    obtain ⟨i, fs, off, ft, it, h1, h2, h3, h4, h5, h6, h⟩ := h
    rcases h with ⟨n, o1, k1, k2⟩ | ⟨cs, k1, k2, k3, k4⟩ | ⟨n, j, o1, k1, k2⟩
    · have hr := ev_rep hs k1
      generalize hv : (act tmps).eval x = v at hr
      cases hr with
      | ptr hlt => exact ⟨_, _, exec_fieldAddr ht ho h1 h2 h3 h4 h5 hv, k2, .ptr hlt⟩
    · have hr := ev_rep hs k1
      generalize hv : (act tmps).eval x = v at hr
      cases hr with
      | f hr =>
      cases hr with
      | ro _ b o1 val g1 g2 =>
        refine ⟨_, _, exec_fieldAddr ht ho h1 h2 h3 h4 h5 hv, k4, .f (.ro _ b (o1 + off) (fun j => val (off + j)) (fun j d hd => ?_) (fun j d hd => ?_))⟩
        all_goals
          have hcs : cs[off + j]? = some d := by
            unfold partF at hd
            cases ha : it.kd.agg with
            | true =>
              rw [ha] at hd
              simp only [if_true, FV.cells, List.getElem?_take, List.getElem?_drop] at hd
              split at hd
              · exact hd
              · cases hd
            | false =>
              have hk := k3 ha
              rw [ha] at hd
              unfold partF at hk
              simp only [Bool.false_eq_true, if_false] at hd hk
              have hlt : off < cs.length := by have := h6 ha; omega
              have e : (cs.drop off).headD (.v undef) = cs[off] := list_drop_head (by simp [hlt])
              rw [e] at hd hk
              have e2 : (cs[off]).cells = [cs[off]] := by cases hq : cs[off] <;> simp_all [FV.cells, FV.isAgg]
              rw [e2] at hd
              cases j with
              | zero => simp at hd; subst hd; simp [hlt]
              | succ j => simp at hd
        · have := g1 (off + j) d hcs
          rw [Nat.add_assoc]; exact this
        · exact g2 (off + j) d hcs
    · have hr := ev_rep hs k1
      generalize hv : (act tmps).eval x = v at hr
      cases hr with
      | ep hlt hnil hj =>
        refine ⟨_, _, exec_fieldAddr ht ho h1 h2 h3 h4 h5 hv, k2, ?_⟩
        rw [Nat.add_assoc]; exact .ep hlt hnil hj

/-- A part of a struct that is at hand. -/
def stepField (tab : Tab) (env : Env) (H : Heap) (nx : Nat) (K : PV → Nat → Heap → Prop) (s : Nat) (x : Operand) (q : Nat) : Prop :=
  ∃ i fs off ft it, tab s = some i ∧ i.kd = .struct fs ∧ fs[q]? = some (off, ft) ∧ tab ft = some it ∧ (it.kd.agg = false → it.size = 1) ∧
    ((∃ cs, ev env x = some (.agg cs) ∧ off + it.size ≤ cs.length ∧ K (if it.kd.agg then mkAgg ((cs.drop off).take it.size) else (cs.drop off).headD (.f (.v undef))) nx H) ∨
     (∃ cs, ev env x = some (.f (.agg cs)) ∧ off + it.size ≤ cs.length ∧ K (.f (partF it.kd.agg cs off it.size)) nx H))

theorem exec_field (ht : TabOk P tab) {s q : Nat} {x : Operand} {tmps : Array Value} {w : World} {i : TI} {fs : List (Nat × Nat)} {off ft : Nat} {it : TI} {vs : Array Value} (ho : o.op = .field s x q)
    (h : tab s = some i) (hk : i.kd = .struct fs) (hf : fs[q]? = some (off, ft)) (hft : tab ft = some it) (h1' : it.kd.agg = false → it.size = 1) (hl : off + it.size ≤ vs.size)
    (hv : (act tmps).eval x = .agg vs) : (execOp (act tmps).eval o).run P w = .ok (.value (if it.kd.agg then .agg (vs.extract off (off + it.size)) else vs.getD off undef)) w := by
  obtain ⟨F, f, h1, h2, h3, h4⟩ := run_struct ht h hk hf
  simp only [execOp, ho, Instr.field, hv]
  simp only [Sem.run_bind, run_underlying h1, Result.andThen_ok, h2, Sem.run_pure, asAgg, part, h4, run_isAgg ht hft]
  cases ha : it.kd.agg with
  | true => simp only [if_true, Sem.run_bind, run_size ht hft, Result.andThen_ok, h3, Sem.run_pure]
  | false =>
    have := h1' ha
    have hlt : off < vs.size := by omega
    simp [h3, hlt]

theorem does_field (ht : TabOk P tab) {s q : Nat} {x : Operand} (ho : o.op = .field s x q) (h : stepField tab env H nx K s x q) : Does P o c nx env H K :=
  Does.pure fun φ tmps w hs => by
    obtain ⟨i, fs, off, ft, it, h1, h2, h3, h4, h6, h⟩ := h
    rcases h with ⟨cs, k1, k2, k3⟩ | ⟨cs, k1, k2, k3⟩
    · have hr := ev_rep hs k1
      generalize hv : (act tmps).eval x = v at hr
      cases hr with
      | agg _ vs e1 e2 e3 =>
        refine ⟨_, _, exec_field ht ho h1 h2 h3 h4 h6 (by omega) hv, k3, ?_⟩
        cases ha : it.kd.agg with
        | true =>
          simp only [if_true]
          refine Rep.mkAgg (by simp; omega) (fun j u hu => ?_) (fun j d u hd hu => ?_)
          · simp only [Array.getElem?_extract] at hu
            split at hu
            · exact e2 _ u hu
            · cases hu
          · simp only [Array.getElem?_extract] at hu
            simp only [List.getElem?_take, List.getElem?_drop] at hd
            split at hu
            · split at hd
              · exact e3 _ d u hd hu
              · cases hd
            · cases hu
        | false =>
          have := h6 ha
          have hlt : off < cs.length := by omega
          have hlt2 : off < vs.size := by omega
          simp only [Bool.false_eq_true, if_false]
          rw [list_drop_head (x := cs[off]) (by simp [hlt])]
          simp only [Array.getD_eq_getD_getElem?, Array.getElem?_eq_getElem hlt2, Option.getD_some]
          exact e3 off _ _ (by simp [hlt]) (by simp [hlt2])
    · have hr := ev_rep hs k1
      generalize hv : (act tmps).eval x = v at hr
      cases hr with
      | f hr =>
      cases hr with
      | agg _ vs e1 e2 e3 =>
        refine ⟨_, _, exec_field ht ho h1 h2 h3 h4 h6 (by omega) hv, k3, ?_⟩
        unfold partF
        cases ha : it.kd.agg with
        | true =>
          simp only [if_true]
          refine .f (.agg _ _ (by simp; omega) (fun j u hu => ?_) (fun j d u hd hu => ?_))
          · simp only [Array.getElem?_extract] at hu
            split at hu
            · exact e2 _ u hu
            · cases hu
          · simp only [Array.getElem?_extract] at hu
            simp only [List.getElem?_take, List.getElem?_drop] at hd
            split at hu
            · split at hd
              · exact e3 _ d u hd hu
              · cases hd
            · cases hu
        | false =>
          have := h6 ha
          have hlt : off < cs.length := by omega
          have hlt2 : off < vs.size := by omega
          simp only [Bool.false_eq_true, if_false]
          rw [list_drop_head (x := cs[off]) (by simp [hlt])]
          simp only [Array.getD_eq_getD_getElem?, Array.getElem?_eq_getElem hlt2, Option.getD_some]
          exact .f (e3 off _ _ (by simp [hlt]) (by simp [hlt2]))

/-- The elements that a slice of a buffer has. -/
def view {α : Type} (lo : Nat) (hi : Option Nat) (l : List α) : List α := match hi with | none => l.drop lo | some h => (l.take h).drop lo

theorem view_length {α : Type} {lo : Nat} {hi : Option Nat} {l : List α} (h : hi.getD l.length ≤ l.length) : (view lo hi l).length = hi.getD l.length - lo := by
  cases hi <;> simp [view] at *
  omega

theorem view_get {α : Type} {lo : Nat} {hi : Option Nat} {l : List α} (h : hi.getD l.length ≤ l.length) {j : Nat} (hj : j < (view lo hi l).length) : (view lo hi l)[j]? = l[lo + j]? := by
  cases hi with
  | none => simp [view]
  | some k =>
    rw [view_length h] at hj
    simp at hj
    simp [view, List.getElem?_drop, List.getElem?_take]
    omega

/-- What a slice's value holds. -/
def Holds (env : Env) (H : Heap) (x : Operand) (sz : Nat) (l : List FV) : Prop :=
  (∃ cl, ev env x = some (.f (.sl sz cl l))) ∨ (∃ a b, ev env x = some (.f (.v (.slice none a b))) ∧ a = 0 ∧ b = 0 ∧ l = []) ∨
  (∃ n lo hi wr m, ev env x = some (.ref n lo hi) ∧ look H n = some (.buf wr sz m) ∧ l = view lo hi m)

/-- A slice's value and the cells that it leads to. -/
theorem Holds.lies {φ : Nat → Phys} {tmps : Array Value} {w : World} (hs : StΦ c nx env H φ tmps w) {x : Operand} {sz : Nat} {l : List FV} (h : Holds env H x sz l) :
    ∃ a cap, (act tmps).eval x = .slice a l.length cap ∧ l.length ≤ cap ∧ (a = none → l = [] ∧ cap = 0) ∧ (∀ (i : Nat) y, l[i]? = some y → y.cells.length = sz) ∧
      (∀ p, a = some p → l ≠ [] → p.spot = none ∧ ∀ (i : Nat) y (j : Nat) d, l[i]? = some y → y.cells[j]? = some d →
        ∃ u, w.cell? ⟨p.block, p.off + i * sz + j, none⟩ = some u ∧ one u = true ∧ RepF w (SS c.So φ H) d u) := by
  rcases h with ⟨cl, h⟩ | ⟨a, b, h, rfl, rfl, rfl⟩ | ⟨n, lo, hi, wr, m, h, hm, rfl⟩
  · have hr := ev_rep hs h
    generalize hv : (act tmps).eval x = v at hr
    cases hr with
    | f hr =>
    cases hr with
    | slnil => exact ⟨none, 0, rfl, Nat.le_refl _, fun _ => ⟨rfl, rfl⟩, fun i y hy => by simp at hy, fun p hp => by cases hp⟩
    | slemp _ _ A => exact ⟨some A, 0, rfl, Nat.le_refl _, fun e => (by cases e), fun i y hy => by simp at hy, fun p hp hne => absurd rfl hne⟩
    | sl _ _ _ b off cap val h1 h2 h3 h4 h5 =>
      refine ⟨_, cap, rfl, h1, fun e => (by cases e), h3, fun p hp hne => ?_⟩
      cases hp
      refine ⟨rfl, fun i y j d hy hd => ?_⟩
      obtain ⟨a1, a2, a3⟩ := h4 i y j d hy hd
      exact ⟨_, a1, a3, h5 i y j d hy hd⟩
  · rw [(ev_rep hs h).v_inv]
    exact ⟨none, 0, rfl, Nat.le_refl _, fun _ => ⟨rfl, rfl⟩, fun i y hy => by simp at hy, fun p hp => by cases hp⟩
  · have hr := ev_rep hs h
    obtain ⟨hnx, e1, e2, e3⟩ := hs.ok.obj n _ hm
    generalize hv : (act tmps).eval x = v at hr
    cases hr with
    | @refnil _ hi _ hnil hlen hh0 =>
      rw [e1] at hlen
      have : m = [] := List.eq_nil_of_length_eq_zero hlen
      subst this
      have hv0 : view 0 hi ([] : List FV) = [] := by cases hi <;> simp [view]
      rw [hv0]
      exact ⟨none, 0, rfl, Nat.le_refl _, fun _ => ⟨rfl, rfl⟩, fun i y hy => by simp at hy, fun p hp => by cases hp⟩
    | @ref _ _ _ cap A _ hnil h1 h2 h3 h4 h5 =>
      rcases e3 with ⟨e3, _⟩ | ⟨_, arr, ty, a1, a2, a3, a4, a5⟩
      · rw [hnil] at e3; cases e3
      rw [e1] at h1 h2 h4 ⊢
      have hvl := view_length (lo := lo) h2
      refine ⟨some A, cap, by rw [hvl], by rw [hvl]; omega, fun e => (by cases e), fun i y hy => ?_, fun p hp hne => ?_⟩
      · have hi' : i < (view lo hi m).length := (List.getElem?_eq_some_iff.1 hy).1
        rw [view_get h2 hi'] at hy
        exact a4 _ y hy
      · cases hp
        have hc : cap ≠ 0 := by
          intro e
          apply hne
          apply List.eq_nil_of_length_eq_zero
          rw [hvl]; omega
        have hA := h5 hc
        subst hA
        refine ⟨rfl, fun i y j d hy hd => ?_⟩
        have hi' : i < (view lo hi m).length := (List.getElem?_eq_some_iff.1 hy).1
        rw [view_get h2 hi'] at hy
        obtain ⟨u, b1, b2, b3⟩ := a5 _ y j d hy hd
        refine ⟨u, ?_, b2, b3⟩
        rw [cell_heap a1, e2]
        rw [show (φ n).base + lo * sz + i * sz + j = (φ n).base + (lo + i) * sz + j by rw [Nat.add_mul]; omega]
        exact b1

def stepLen (tab : Tab) (env : Env) (H : Heap) (nx : Nat) (K : PV → Nat → Heap → Prop) (t : Nat) (x : Operand) : Prop :=
  ∃ i, tab t = some i ∧
    ((∃ e sz l, i.kd = .slice e ∧ Holds env H x sz l ∧ K (.f (.v (.int .i64 l.length))) nx H) ∨
     (∃ s, i.kd = .str ∧ ev env x = some (.f (.v (.string s))) ∧ K (.f (.v (.int .i64 s.size))) nx H) ∨
     (∃ n e, i.kd = .arr n e ∧ K (.f (.v (.int .i64 n))) nx H))

theorem does_len (ht : TabOk P tab) {t : Nat} {x : Operand} (ho : o.op = .call { callee := .builtin .len, args := #[x], argTypes := #[t] }) (h : stepLen tab env H nx K t x) : Does P o c nx env H K :=
  Does.pure fun φ tmps w hs => by
    obtain ⟨i, h1, h⟩ := h
    rcases h with ⟨e, sz, l, h2, h3, h4⟩ | ⟨s, h2, h3, h4⟩ | ⟨n, e, h2, h4⟩
    · obtain ⟨a, cap, k1, _⟩ := h3.lies hs
      refine ⟨_, _, ?_, h4, .f (.v _)⟩
      simp [execOp, ho, resolve, invoke, builtin, Builtin.len_, k1, run_underlying (under_slice ht h1 h2), goInt]
    · refine ⟨_, _, ?_, h4, .f (.v _)⟩
      simp [execOp, ho, resolve, invoke, builtin, Builtin.len_, (ev_rep hs h3).v_inv, run_underlying (under_str ht h1 h2), goInt]
    · refine ⟨_, _, ?_, h4, .f (.v _)⟩
      simp [execOp, ho, resolve, invoke, builtin, Builtin.len_, run_underlying (under_arr ht h1 h2), goInt]

/-- The address of an element. -/
def stepIndexAddr (tab : Tab) (env : Env) (H : Heap) (nx : Nat) (K : PV → Nat → Heap → Prop) (t : Nat) (x ix : Operand) : Prop :=
  ∃ i e ie k q, tab t = some i ∧ tab e = some ie ∧ ev env ix = some (.f (.v (.int k q))) ∧ 0 ≤ q ∧
    ((∃ cl l y, i.kd = .slice e ∧ ev env x = some (.f (.sl ie.size cl l)) ∧ l[q.toNat]? = some y ∧ K (.f (.ro y)) nx H) ∨
     (∃ n lo hi wr l, i.kd = .slice e ∧ ev env x = some (.ref n lo hi) ∧ look H n = some (.buf wr ie.size l) ∧ q.toNat < (view lo hi l).length ∧ K (.ep n (lo + q.toNat) 0) nx H) ∨
     (∃ n off m, i.kd = .arr m e ∧ ev env x = some (.ptr n off) ∧ q < m ∧ K (.ptr n (off + q.toNat * ie.size)) nx H) ∨
     (∃ cs m, i.kd = .arr m e ∧ ev env x = some (.f (.ro (.agg cs))) ∧ q < m ∧ (q.toNat * ie.size) + ie.size ≤ cs.length ∧ ie.kd.agg = false ∧ ie.size = 1 ∧
        (partF false cs (q.toNat * ie.size) 1).isAgg = false ∧ K (.f (.ro (partF false cs (q.toNat * ie.size) 1))) nx H))

theorem exec_indexAddr {t : Nat} {x ix : Operand} {tmps : Array Value} {w : World} {k : IntKind} {q : Int} {r v : Value} (ho : o.op = .indexAddr t x ix)
    (hi : (act tmps).eval ix = .int k q) (hx : (act tmps).eval x = v) (hrun : (Instr.indexAt t v (.int k q)).run P w = .ok r w) : (execOp (act tmps).eval o).run P w = .ok (.value r) w := by
  simp only [execOp, ho, hi, hx]
  rw [Sem.run_bind, hrun]; rfl

theorem does_indexAddr (ht : TabOk P tab) {t : Nat} {x ix : Operand} (ho : o.op = .indexAddr t x ix) (h : stepIndexAddr tab env H nx K t x ix) : Does P o c nx env H K :=
  Does.pure fun φ tmps w hs => by
    obtain ⟨i, e, ie, k, q, h1, h2, h3, h4, h⟩ := h
    have hi := (ev_rep hs h3).v_inv
    have hqn : (q.toNat : Int) = q := Int.toNat_of_nonneg h4
    rcases h with ⟨cl, l, y, g1, g2, g3, g4⟩ | ⟨n, lo, hh, wr, l, g1, g2, g3, g4, g5⟩ | ⟨n, off, m, g1, g2, g3, g4⟩ | ⟨cs, m, g1, g2, g3, g4, g5, g6, g7, g8⟩
    · have hr := ev_rep hs g2
      generalize hv : (act tmps).eval x = v at hr
      have hu := under_slice ht h1 g1
      have hql : q.toNat < l.length := (List.getElem?_eq_some_iff.1 g3).1
      cases hr with
      | f hr =>
      cases hr with
      | slnil => simp at g3
      | slemp => simp at g3
      | sl _ _ _ b off cap val a1 a2 a3 a4 a5 =>
        refine ⟨_, .pointer (some ⟨b, off + q.toNat * ie.size, none⟩), exec_indexAddr ho hi hv ?_, g4, .f (.ro y b _ (fun j => val q.toNat j) (fun j d hd => ?_) (fun j d hd => a5 _ y j d g3 hd))⟩
        · simp [Instr.indexAt, asIntOf, run_underlying hu, run_size ht h2, add_plain, h4, show q < (l.length : Int) by omega]
        · exact a4 _ y j d g3 hd
    · have hr := ev_rep hs g2
      generalize hv : (act tmps).eval x = v at hr
      have hu := under_slice ht h1 g1
      obtain ⟨hnx, e1, e2, e3⟩ := hs.ok.obj n _ g3
      cases hr with
      | @refnil _ hz _ hnil hlen hh0 =>
        rw [e1] at hlen
        have : l = [] := List.eq_nil_of_length_eq_zero hlen
        subst this
        have hv0 : view 0 hh ([] : List FV) = [] := by cases hh <;> simp [view]
        rw [hv0] at g4
        simp at g4
      | @ref _ _ _ cap A hlt hnil b1 b2 b3 b4 b5 =>
        rw [e1] at b1 b2 b4 hv
        rw [view_length b2] at g4
        have hA := b5 (by omega)
        subst hA
        rw [e2] at hv
        refine ⟨_, .pointer (some ⟨(φ n).blk, (φ n).base + (lo + q.toNat) * (φ n).sz + 0, none⟩), exec_indexAddr ho hi hv ?_, g5, .ep hlt hnil (by rw [e1]; omega)⟩
        simp [Instr.indexAt, asIntOf, run_underlying hu, run_size ht h2, add_plain, h4, show q < ((hh.getD l.length - lo : Nat) : Int) by omega, e2, Nat.add_mul, Nat.add_assoc]
    · have hr := ev_rep hs g2
      generalize hv : (act tmps).eval x = v at hr
      have hu := under_arr ht h1 g1
      cases hr with
      | ptr hlt =>
        refine ⟨_, _, exec_indexAddr ho hi hv ?_, g4, .ptr hlt⟩
        simp [Instr.indexAt, asIntOf, run_underlying hu, run_size ht h2, add_plain, h4, g3, Instr.sureAddr]
    · have hr := ev_rep hs g2
      generalize hv : (act tmps).eval x = v at hr
      have hu := under_arr ht h1 g1
      cases hr with
      | f hr =>
      cases hr with
      | ro _ b o1 val a1 a2 =>
        have hlt : q.toNat * ie.size < cs.length := by omega
        have e : (partF false cs (q.toNat * ie.size) 1) = cs[q.toNat * ie.size] := by unfold partF; exact list_drop_head (by simp [hlt])
        have e2 : (cs[q.toNat * ie.size]).cells = [cs[q.toNat * ie.size]] := by rw [e] at g7; cases hq : cs[q.toNat * ie.size] <;> simp_all [FV.cells, FV.isAgg]
        refine ⟨_, .pointer (some ⟨b, o1 + q.toNat * ie.size, none⟩), exec_indexAddr ho hi hv ?_, g8, ?_⟩
        · simp [Instr.indexAt, asIntOf, run_underlying hu, run_size ht h2, add_plain, h4, g3, Instr.sureAddr]
        · rw [e]
          refine .f (.ro _ b _ (fun j => val (q.toNat * ie.size + j)) (fun j d hd => ?_) (fun j d hd => ?_))
          all_goals
            rw [e2] at hd
            have hj : j = 0 ∧ d = cs[q.toNat * ie.size] := by
              cases j with
              | zero => simp at hd; exact ⟨rfl, hd.symm⟩
              | succ j => simp at hd
            obtain ⟨rfl, rfl⟩ := hj
          · have := a1 (q.toNat * ie.size) cs[q.toNat * ie.size] (by simp [FV.cells, hlt])
            simpa using this
          · have := a2 (q.toNat * ie.size) cs[q.toNat * ie.size] (by simp [FV.cells, hlt])
            simpa using this

/-- A byte of a string. -/
def stepIndex (tab : Tab) (env : Env) (H : Heap) (nx : Nat) (K : PV → Nat → Heap → Prop) (t : Nat) (x ix : Operand) : Prop :=
  ∃ i k q s b, tab t = some i ∧ i.kd = .str ∧ ev env ix = some (.f (.v (.int k q))) ∧ 0 ≤ q ∧ ev env x = some (.f (.v (.string s))) ∧ s[q.toNat]? = some b ∧ K (.f (.v (.int .u8 b.toNat))) nx H

theorem does_index (ht : TabOk P tab) {t : Nat} {x ix : Operand} (ho : o.op = .index t x ix) (h : stepIndex tab env H nx K t x ix) : Does P o c nx env H K :=
  Does.pure fun φ tmps w hs => by
    obtain ⟨i, k, q, s, b, h1, h2, h3, h4, h5, h6, h7⟩ := h
    refine ⟨_, _, ?_, h7, .f (.v _)⟩
    simp [execOp, ho, Instr.index, (ev_rep hs h3).v_inv, (ev_rep hs h5).v_inv, asIntOf, run_underlying (under_str ht h1 h2), h4, h6]

/-- The greater, the smaller of two numbers. -/
def stepMinMax (env : Env) (H : Heap) (nx : Nat) (K : PV → Nat → Heap → Prop) (b : Builtin) (xs : List Operand) : Prop :=
  ∃ x y k p q, xs = [x, y] ∧ ev env x = some (.f (.v (.int k p))) ∧ ev env y = some (.f (.v (.int k q))) ∧
    ((b = .max ∧ K (.f (.v (.int k (if p < q then q else p)))) nx H) ∨ (b = .min ∧ K (.f (.v (.int k (if q < p then q else p)))) nx H))

theorem does_minmax {b : Builtin} {xs : List Operand} {ts : Array Nat} (ho : o.op = .call { callee := .builtin b, args := xs.toArray, argTypes := ts }) (h : stepMinMax env H nx K b xs) : Does P o c nx env H K :=
  Does.pure fun φ tmps w hs => by
    obtain ⟨x, y, k, p, q, rfl, h2, h3, h⟩ := h
    have e1 := (ev_rep hs h2).v_inv
    have e2 := (ev_rep hs h3).v_inv
    rcases h with ⟨rfl, h⟩ | ⟨rfl, h⟩
    · refine ⟨_, _, ?_, h, .f (.v _)⟩
      simp [execOp, ho, resolve, invoke, builtin, e1, e2, run_max_int2]
    · refine ⟨_, _, ?_, h, .f (.v _)⟩
      simp [execOp, ho, resolve, invoke, builtin, e1, e2, run_min_int2]
end
end Go.Proofs.YtnajikpdnccilaaGreat.Pv
