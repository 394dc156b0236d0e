/- Stores, addresses, small operations. -/
import Derived.Test.YtnajikpdnccilaaGreatPvD
set_option linter.unusedVariables false
set_option linter.unusedSimpArgs false
namespace Go.Proofs.YtnajikpdnccilaaGreat.Pv
open Go

def splice {α : Type} (cs : List α) (off : Nat) (xs : List α) : List α := cs.take off ++ xs ++ cs.drop (off + xs.length)

theorem splice_length {α : Type} {cs : List α} {off : Nat} {xs : List α} (h : off + xs.length ≤ cs.length) : (splice cs off xs).length = cs.length := by
  simp [splice]; omega

theorem splice_get {α : Type} {cs : List α} {off : Nat} {xs : List α} (h : off + xs.length ≤ cs.length) (j : Nat) :
    (splice cs off xs)[j]? = if j < off then cs[j]? else if j < off + xs.length then xs[j - off]? else cs[j]? := by
  unfold splice
  by_cases h1 : j < off
  · rw [if_pos h1, List.append_assoc, List.getElem?_append_left (by simp; omega), List.getElem?_take, if_pos h1]
  · rw [if_neg h1, List.append_assoc, List.getElem?_append_right (by simp; omega)]
    have e : (cs.take off).length = off := by simp; omega
    rw [e]
    by_cases h2 : j < off + xs.length
    · rw [if_pos h2, List.getElem?_append_left (by omega)]
    · rw [if_neg h2, List.getElem?_append_right (by omega), List.getElem?_drop]
      congr 1; omega

section
variable {P : Program} {tab : Tab} {c : Ctx} {nx : Nat} {env : Env} {H : Heap} {K : PV → Nat → Heap → Prop} {o : Oper}

/-- The names of a heap, written at one of them. -/
def hput (H : Heap) (n : Nat) (o : Obj) : Heap := (n, o) :: drop H n

def FV.isAgg : FV → Bool
  | .agg _ => true
  | _ => false

def FV.one : FV → Bool
  | .v x => Pv.one x
  | .agg _ => false
  | _ => true

/-- An element with some of its cells written. -/
def setCells (y : FV) (off : Nat) (xs : List FV) : FV :=
  match y with
  | .agg cs => .agg (splice cs off xs)
  | _ => xs.headD y

theorem setCells_cells {y : FV} {off : Nat} {xs : List FV} (h : off + xs.length ≤ y.cells.length) (h1 : ∀ x ∈ xs, x.isAgg = false) (h0 : xs ≠ []) : (setCells y off xs).cells = splice y.cells off xs := by
  have plain : y.cells = [y] → setCells y off xs = xs.headD y → (setCells y off xs).cells = splice y.cells off xs := by
    intro e e2
    rw [e] at h
    match xs, h0 with
    | [x], _ =>
      have hx := h1 x (by simp)
      simp at h
      rw [e2, e, h]
      cases x <;> simp_all [FV.isAgg, FV.cells, splice]
    | x :: x2 :: t, _ => simp at h; omega
  cases y with
  | agg cs => rfl
  | v x => exact plain rfl rfl
  | sl a b d => exact plain rfl rfl
  | ro x => exact plain rfl rfl

def stepStore (tab : Tab) (env : Env) (H : Heap) (nx : Nat) (K : PV → Nat → Heap → Prop) (t : Nat) (x y : Operand) : Prop :=
  ∃ i pv, tab t = some i ∧ ev env y = some pv ∧ pv.storable = true ∧ pv.cells.length = i.size ∧
    ((∃ n off cs, ev env x = some (.ptr n off) ∧ look H n = some (.obj cs) ∧ off + i.size ≤ cs.length ∧ K (.f (.v undef)) nx (hput H n (.obj (splice cs off pv.cells)))) ∨
     (∃ n j off sz l z fs, ev env x = some (.ep n j off) ∧ look H n = some (.buf true sz l) ∧ l[j]? = some z ∧ off + i.size ≤ z.cells.length ∧ allF pv.cells = some fs ∧
        (fs.all fun f => !f.isAgg) = true ∧ fs ≠ [] ∧ K (.f (.v undef)) nx (hput H n (.buf true sz (l.set j (setCells z off fs))))))

theorem Does.skip {P : Program} {o : Oper} {c : Ctx} {nx : Nat} {env : Env} {H : Heap} {K : PV → Nat → Heap → Prop}
    (h : ∀ φ tmps w, StΦ c nx env H φ tmps w → ∃ nx' H' φ' w', (execOp (act tmps).eval o).run P w = .ok .skip w' ∧ K (.f (.v undef)) nx' H' ∧
      StΦ c nx' env H' φ' tmps w') : Does P o c nx env H K := by
  intro φ tmps w hs next Q hn
  obtain ⟨nx', H', φ', w', hr, hk, hs'⟩ := h φ tmps w hs
  unfold Oper.wp
  rw [hr, Oper.upon_skip]
  exact hn _ nx' H' φ' undef w' hk hs' (.f (.v undef))

theorem exec_store {t : Nat} {x y : Operand} {tmps : Array Value} {w w' : World} {b off : Nat} {v : Value} {n : Nat} (ho : o.op = .store t x y) (hv : (act tmps).eval x = .pointer (some ⟨b, off, none⟩))
    (hy : (act tmps).eval y = v) (hz : (sizeOf t).run P w = .ok n w) (hn : v.cells.size = n)
    (hst : (storeCells ⟨b, off, none⟩ v.cells.toList 0).run P w = .ok () w') : (execOp (act tmps).eval o).run P w = .ok .skip w' := by
  simp only [execOp, ho, Instr.storeAt, Instr.sureAddr, hv, hy, storeVar]
  simp only [Sem.run_bind, Sem.run_pure, Result.andThen_ok, hz, hn]
  simp [hst]

theorem upd_self {φ : Nat → Phys} {n : Nat} : upd φ n (φ n) = φ := by
  funext m; unfold upd; split
  · rename_i h; rw [h]
  · rfl

theorem allF_cells {pv : PV} {fs : List FV} (h : allF pv.cells = some fs) {φ : Nat → Phys} {w : World} {S : Nat → Nat → Prop} {u : Value} {j : Nat} {d : FV} (hd : fs[j]? = some d)
    (hr : ∀ e, pv.cells[j]? = some e → Rep φ nx w S e u) : RepF w S d u := by
  have e := allF_map h
  have := hr (.f d) (by rw [e]; simp [hd])
  cases this with | f h => exact h

theorem does_store (ht : TabOk P tab) {t : Nat} {x y : Operand} (ho : o.op = .store t x y) (h : stepStore tab env H nx K t x y) : Does P o c nx env H K :=
  Does.skip fun φ tmps w hs => by
    obtain ⟨i, pv, h1, h2, h3, h4, h⟩ := h
    have hy := ev_rep hs h2
    obtain ⟨c1, c2⟩ := hy.cells h3
    rcases h with ⟨n, off, cs, k1, k2, k3, k4⟩ | ⟨n, j, off, sz, l, z, fs, k1, k2, k3, k4, k5, k6, k7, k8⟩
    · have hr := ev_rep hs k1
      obtain ⟨hnx, hsat⟩ := hs.ok.obj n _ k2
      obtain ⟨hnil, arr, ty, a1, a2, a3⟩ := hsat
      generalize hv : (act tmps).eval x = v at hr
      generalize hv2 : (act tmps).eval y = v2 at hy c1 c2
      cases hr
      have hst := run_storeCells_at P (φ n).blk off ty v2.cells.toList 0 arr w a1 (by simp; omega) (fun u hu => by
        obtain ⟨q, hq⟩ := List.getElem?_of_mem hu
        have hq' : v2.cells[q]? = some u := by simpa using hq
        have hlt : q < pv.cells.length := by rw [← c1]; exact (Array.getElem?_eq_some_iff.1 hq').1
        obtain ⟨u', b1, b2, b3⟩ := c2 q pv.cells[q] (by simp [hlt])
        rw [b1] at hq'; cases hq'; exact b2)
      have hex := exec_store ho hv hv2 (run_size ht h1 w) (by rw [c1, h4]) hst
      simp only [Nat.add_zero] at hex
      refine ⟨_, _, φ, _, hex, k4, ?_⟩
      have hlen : off + pv.cells.length ≤ cs.length := by rw [h4]; exact k3
      have hw := hs.write (n := n) (m := n) (nx' := nx) (o' := .obj (splice cs off pv.cells)) (p := φ n) (w' := w.setRow (φ n).blk (arr.toList.take off ++ v2.cells.toList ++ arr.toList.drop (off + v2.cells.toList.length)).toArray)
        k2 hnil (.inl ⟨rfl, rfl, rfl⟩) hnil rfl (Nat.le_refl _) rfl rfl rfl (by simp) (fun b hb => setRow_other w _ b _ hb) (fun q hq => by simp [lim] at hq) (fun hm => by
          rw [upd_self] at hm ⊢
          refine ⟨hnil, _, ty, setRow_heap w _ arr _ ty _ a1, ?_, fun q d hd => ?_⟩
          · rw [splice_length hlen, ← a2]; simp; omega
          · have e : (arr.toList.take off ++ v2.cells.toList ++ arr.toList.drop (off + v2.cells.toList.length)) = splice arr.toList off v2.cells.toList := rfl
            rw [splice_get hlen] at hd
            rw [e, List.getElem?_toArray, splice_get (by simp; omega)]
            by_cases q1 : q < off
            · rw [if_pos q1] at hd ⊢
              obtain ⟨u, b1, b2, b3⟩ := a3 q d hd
              exact ⟨u, by simpa using b1, b2, b3.step (fun _ _ => rfl) (Nat.le_refl _) hm⟩
            · rw [if_neg q1] at hd ⊢
              have e2 : v2.cells.toList.length = pv.cells.length := by simp [c1]
              rw [e2]
              by_cases q2 : q < off + pv.cells.length
              · rw [if_pos q2] at hd ⊢
                obtain ⟨u, b1, b2, b3⟩ := c2 _ d hd
                exact ⟨u, by simpa using b1, b2, b3.step (fun _ _ => rfl) (Nat.le_refl _) hm⟩
              · rw [if_neg q2] at hd ⊢
                obtain ⟨u, b1, b2, b3⟩ := a3 q d hd
                exact ⟨u, by simpa using b1, b2, b3.step (fun _ _ => rfl) (Nat.le_refl _) hm⟩)
      rw [upd_self] at hw
      exact hw
    · have hr := ev_rep hs k1
      obtain ⟨hnx, hsat⟩ := hs.ok.obj n _ k2
      generalize hv : (act tmps).eval x = v at hr
      generalize hv2 : (act tmps).eval y = v2 at hy c1 c2
      cases hr with
      | ep _ hnil hlt =>
      obtain ⟨e1, e2, e3⟩ := hsat
      rcases e3 with ⟨e3, _⟩ | ⟨_, arr, ty, a1, a2, a3, a4, a5⟩
      · rw [hnil] at e3; cases e3
      have hl : j < l.length := (List.getElem?_eq_some_iff.1 k3).1
      have hcap : j * sz + sz ≤ (φ n).cap * sz := by
        have := Nat.mul_le_mul_right sz (show j + 1 ≤ (φ n).cap by omega)
        rw [Nat.add_mul] at this; omega
      have hzc := a4 j z k3
      have hfl : fs.length = pv.cells.length := by rw [allF_map k5]; simp
      rw [e2] at hv
      have hst := run_storeCells_at P (φ n).blk ((φ n).base + j * sz + off) ty v2.cells.toList 0 arr w a1 (by simp; omega) (fun u hu => by
        obtain ⟨q, hq⟩ := List.getElem?_of_mem hu
        have hq' : v2.cells[q]? = some u := by simpa using hq
        have hlt : q < pv.cells.length := by rw [← c1]; exact (Array.getElem?_eq_some_iff.1 hq').1
        obtain ⟨u', b1, b2, b3⟩ := c2 q pv.cells[q] (by simp [hlt])
        rw [b1] at hq'; cases hq'; exact b2)
      have hex := exec_store ho hv hv2 (run_size ht h1 w) (by rw [c1, h4]) hst
      simp only [Nat.add_zero] at hex
      refine ⟨_, _, φ, _, hex, k8, ?_⟩
      have hsc : (setCells z off fs).cells = splice z.cells off fs := setCells_cells (by omega) (fun x hx => by
        have := List.all_eq_true.1 k6 x hx; simpa using this) k7
      have hw := hs.write (n := n) (m := n) (nx' := nx) (o' := .buf true sz (l.set j (setCells z off fs))) (p := φ n)
        (w' := w.setRow (φ n).blk (arr.toList.take ((φ n).base + j * sz + off) ++ v2.cells.toList ++ arr.toList.drop ((φ n).base + j * sz + off + v2.cells.toList.length)).toArray)
        k2 hnil (.inl ⟨rfl, rfl, rfl⟩) hnil rfl (Nat.le_refl _) rfl rfl rfl (by simp) (fun b hb => setRow_other w _ b _ hb) (fun q hq => by simp [lim] at hq) (fun hm => by
          rw [upd_self] at hm ⊢
          refine ⟨by simp [e1], e2, .inr ⟨hnil, _, ty, setRow_heap w _ arr _ ty _ a1, ?_, by simp [a3], ?_, ?_⟩⟩
          · simp; omega
          · intro q d hd
            rw [List.getElem?_set] at hd
            split at hd
            · rename_i hjq
              cases hd
              rw [hsc, splice_length (by omega)]; exact hzc
            · exact a4 q d hd
          · intro q d r cc hd hr
            have e : (arr.toList.take ((φ n).base + j * sz + off) ++ v2.cells.toList ++ arr.toList.drop ((φ n).base + j * sz + off + v2.cells.toList.length)) = splice arr.toList ((φ n).base + j * sz + off) v2.cells.toList := rfl
            rw [e, List.getElem?_toArray, splice_get (by simp; omega)]
            have e2 : v2.cells.toList.length = pv.cells.length := by simp [c1]
            rw [e2]
            rw [List.getElem?_set] at hd
            split at hd
            · rename_i hjq
              subst hjq
              cases hd
              rw [hsc, splice_get (by omega)] at hr
              by_cases q1 : r < off
              · rw [if_pos q1] at hr
                rw [if_pos (by omega)]
                obtain ⟨u, b1, b2, b3⟩ := a5 j z r cc k3 hr
                exact ⟨u, by simpa using b1, b2, b3.step hm⟩
              · rw [if_neg q1] at hr
                rw [if_neg (by omega)]
                by_cases q2 : r < off + fs.length
                · rw [if_pos q2] at hr
                  rw [if_pos (by omega)]
                  have hlt : r - off < pv.cells.length := by omega
                  obtain ⟨u, b1, b2, b3⟩ := c2 (r - off) pv.cells[r - off] (by simp [hlt])
                  refine ⟨u, ?_, b2, ?_⟩
                  · rw [show (φ n).base + j * sz + r - ((φ n).base + j * sz + off) = r - off by omega]; simpa using b1
                  · refine allF_cells (nx := nx) (φ := φ) k5 hr fun e he => ?_
                    rw [List.getElem?_eq_getElem hlt] at he; cases he
                    exact b3.step (fun _ _ => rfl) (Nat.le_refl _) hm
                · rw [if_neg q2] at hr
                  rw [if_neg (by omega)]
                  obtain ⟨u, b1, b2, b3⟩ := a5 j z r cc k3 hr
                  exact ⟨u, by simpa using b1, b2, b3.step hm⟩
            · rename_i hjq
              obtain ⟨u, b1, b2, b3⟩ := a5 q d r cc hd hr
              have hrl : r < sz := by rw [← a4 q d hd]; exact (List.getElem?_eq_some_iff.1 hr).1
              have hne : (φ n).base + q * sz + r < (φ n).base + j * sz + off ∨ ¬ ((φ n).base + q * sz + r < (φ n).base + j * sz + off + pv.cells.length) := by
                rcases Nat.lt_or_gt_of_ne (show q ≠ j from fun e => hjq e.symm) with h | h
                · have := Nat.mul_le_mul_right sz (show q + 1 ≤ j by omega)
                  rw [Nat.add_mul] at this; left; omega
                · have := Nat.mul_le_mul_right sz (show j + 1 ≤ q by omega)
                  rw [Nat.add_mul] at this; right; omega
              refine ⟨u, ?_, b2, b3.step hm⟩
              rcases hne with h | h
              · rw [if_pos h]; simpa using b1
              · rw [if_neg (by omega), if_neg h]; simpa using b1)
      rw [upd_self] at hw
      exact hw

def PV.isPtr : PV → Prop
  | .ptr .. | .ep .. | .f (.ro _) | .clo (.func _) _ => True
  | _ => False

def stepNilCheck (env : Env) (H : Heap) (nx : Nat) (K : PV → Nat → Heap → Prop) (x : Operand) : Prop :=
  ∃ pv, ev env x = some pv ∧ pv.isPtr ∧ K pv nx H

theorem does_nilCheck {x : Operand} (ho : o.op = .nilCheck x) (h : stepNilCheck env H nx K x) : Does P o c nx env H K :=
  Does.pure fun φ tmps w hs => by
    obtain ⟨pv, h1, h2, h3⟩ := h
    have hr := ev_rep hs h1
    refine ⟨pv, _, ?_, h3, hr⟩
    generalize hv : (act tmps).eval x = v at hr
    simp only [execOp, ho, hv]
    cases hr with
    | f hr => cases hr <;> first | exact h2.elim | rfl
    | clo fn cs vs => cases fn <;> first | exact h2.elim | rfl
    | ptr => rfl
    | ep => rfl
    | _ => exact h2.elim

def stepUn (op : UnOp) (C : Value → Prop) : Value → Prop
  | .int k a =>
    match op with
    | .neg => C (.int k (k.wrap (0 - a)))
    | .xor => C (.int k (bitI .xor k (if k.signed then -1 else k.max) a))
    | _ => False
  | .bool b =>
    match op with
    | .not => C (.bool (!b))
    | _ => False
  | _ => False

def stepUnOp (env : Env) (H : Heap) (nx : Nat) (K : PV → Nat → Heap → Prop) (op : UnOp) (x : Operand) : Prop :=
  ∃ v, ev env x = some (.f (.v v)) ∧ stepUn op (fun r => K (.f (.v r)) nx H) v

theorem does_unOp {op : UnOp} {t : Nat} {x : Operand} (ho : o.op = .unOp op t x) (h : stepUnOp env H nx K op x) : Does P o c nx env H K :=
  Does.pure fun φ tmps w hs => by
    obtain ⟨v, h1, h2⟩ := h
    have e := (ev_rep hs h1).v_inv
    unfold stepUn at h2
    split at h2
    · cases op <;> simp only [] at h2
      · exact ⟨_, _, by simp [execOp, ho, e, Op.unary, Op.intArith], h2, .f (.v _)⟩
      · exact ⟨_, _, by simp [execOp, ho, e, Op.unary, Op.intBits, bitI], h2, .f (.v _)⟩
    · cases op <;> simp only [] at h2
      exact ⟨_, _, by simp [execOp, ho, e, Op.unary], h2, .f (.v _)⟩
    · exact h2.elim

def stepBinOp (tab : Tab) (env : Env) (H : Heap) (nx : Nat) (K : PV → Nat → Heap → Prop) (op : BinOp) (t : Nat) (x y : Operand) : Prop :=
  ∃ a b, ev env x = some (.f (.v a)) ∧ ev env y = some (.f (.v b)) ∧ stepBin op ((tab t).elim .other (·.kd)) (fun r => K (.f (.v r)) nx H) a b

theorem does_binOp (ht : TabOk P tab) {op : BinOp} {t u : Nat} {x y : Operand} (ho : o.op = .binOp op t x y u) (h : stepBinOp tab env H nx K op t x y) : Does P o c nx env H K :=
  Does.pure fun φ tmps w hs => by
    obtain ⟨a, b, h1, h2, h3⟩ := h
    have e1 := (ev_rep hs h1).v_inv
    have e2 := (ev_rep hs h2).v_inv
    obtain ⟨r, k1, k2, k3, k4⟩ := run_stepBin (P := P) (t := t) ht (by cases hq : tab t with | none => exact .inl rfl | some i => exact .inr ⟨i, rfl, rfl⟩) w h3
    refine ⟨_, r, ?_, k1, .f (.v r)⟩
    simp only [execOp, ho, e1, e2]
    simp only [Sem.run_bind, run_eqGuard_plain w k4, k3, Result.andThen_ok, Sem.run_pure]

def stepConv (tab : Tab) (env : Env) (H : Heap) (nx : Nat) (K : PV → Nat → Heap → Prop) (s t : Nat) (x : Operand) : Prop :=
  ∃ is it, tab s = some is ∧ tab t = some it ∧
    ((∃ k k' a, it.kd = .int k ∧ ev env x = some (.f (.v (.int k' a))) ∧ (∃ k2, is.kd = .int k2) ∧ K (.f (.v (.int k (k.wrap a)))) nx H) ∨
     (∃ a, it.kd = .str ∧ is.kd = .str ∧ ev env x = some (.f (.v (.string a))) ∧ K (.f (.v (.string a))) nx H))

theorem does_convert (ht : TabOk P tab) {s t : Nat} {x : Operand} (ho : o.op = .convert s t x) (h : stepConv tab env H nx K s t x) : Does P o c nx env H K :=
  Does.pure fun φ tmps w hs => by
    obtain ⟨is, it, h1, h2, h⟩ := h
    have u1 := (ht s is h1).under
    have u2 := (ht t it h2).under
    rcases h with ⟨k, k', a, e1, e2, ⟨k2, e3⟩, h⟩ | ⟨a, e1, e2, e3, h⟩
    · rw [e1] at u2; rw [e3] at u1
      simp only [Under] at u1 u2
      refine ⟨_, _, ?_, h, .f (.v _)⟩
      simp [execOp, ho, (ev_rep hs e2).v_inv, convert, run_underlying u1, run_underlying u2, Conv.intToInt]
    · rw [e1] at u2; rw [e2] at u1
      simp only [Under] at u1 u2
      refine ⟨_, _, ?_, h, .f (.v _)⟩
      simp [execOp, ho, (ev_rep hs e3).v_inv, convert, run_underlying u1, run_underlying u2]

def stepExtract (env : Env) (H : Heap) (nx : Nat) (K : PV → Nat → Heap → Prop) (x : Operand) (i : Nat) : Prop :=
  ∃ xs d, ev env x = some (.tup xs) ∧ xs[i]? = some d ∧ K d nx H

theorem does_extract {x : Operand} {i : Nat} (ho : o.op = .extract x i) (h : stepExtract env H nx K x i) : Does P o c nx env H K :=
  Does.pure fun φ tmps w hs => by
    obtain ⟨xs, d, h1, h2, h3⟩ := h
    have hr := ev_rep hs h1
    generalize hv : (act tmps).eval x = v at hr
    cases hr with
    | tup _ vs e1 e2 =>
      have hlt : i < vs.size := by rw [e1]; exact (List.getElem?_eq_some_iff.1 h2).1
      refine ⟨d, vs[i], ?_, h3, e2 i d _ h2 (by simp [hlt])⟩
      simp [execOp, ho, hv, Instr.extract, hlt]

def stepMakeFunc (env : Env) (H : Heap) (nx : Nat) (K : PV → Nat → Heap → Prop) (fn : Fn) (caps : List Operand) : Prop :=
  ∃ xs, caps.mapM (ev env) = some xs ∧ K (.clo fn xs) nx H

theorem mapM_get {env : Env} : ∀ {caps : List Operand} {xs : List PV}, caps.mapM (ev env) = some xs → xs.length = caps.length ∧ ∀ (i : Nat) x, xs[i]? = some x → ∃ op, caps[i]? = some op ∧ ev env op = some x
  | [], xs, h => by simp at h; subst h; exact ⟨rfl, fun i x hx => by simp at hx⟩
  | op :: caps, xs, h => by
    simp only [List.mapM_cons, Option.bind_eq_bind, Option.pure_def, Option.bind_eq_some_iff] at h
    obtain ⟨y, h1, ys, h2, h3⟩ := h
    cases h3
    obtain ⟨a, b⟩ := mapM_get h2
    refine ⟨by simp [a], fun i x hx => ?_⟩
    cases i with
    | zero => simp at hx; subst hx; exact ⟨op, rfl, h1⟩
    | succ i => simpa using b i x (by simpa using hx)

theorem does_makeFunc {fn : Fn} {caps : Array Operand} (ho : o.op = .makeFunc fn #[] caps) (h : stepMakeFunc env H nx K fn caps.toList) : Does P o c nx env H K :=
  Does.pure fun φ tmps w hs => by
    obtain ⟨xs, h1, h2⟩ := h
    obtain ⟨a, b⟩ := mapM_get h1
    refine ⟨_, _, ?_, h2, .clo fn xs (caps.map (act tmps).eval) (by simp [a]) fun i x u hx hu => ?_⟩
    · simp [execOp, ho, Instr.makeFunc]
    · obtain ⟨op, c1, c2⟩ := b i x hx
      have hq : caps[i]? = some op := by simpa using c1
      simp [hq] at hu
      subst hu
      exact ev_rep hs c2
end
end Go.Proofs.YtnajikpdnccilaaGreat.Pv
