/- What one operation does: append, copy, maps. -/
import Derived.Test.YtnajikpdnccilaaGreatPvMS
set_option linter.unusedVariables false
set_option linter.unusedSimpArgs false
namespace Go.Proofs.YtnajikpdnccilaaGreat.Pv.M
open Go

section
variable {ρ : Nat → Int} {P : Program} {D : Dm} {o : Oper} {c : Ctx} {nx : Nat} {env : Env} {H : Heap} {φ : Nat → Ph} {tmps : Array Value} {w w' : World}
/-- The cells of a row, as the machine reads them. -/
structure NewsM (P : Program) (w : World) (sz : Nat) (va : Value) (m : Nat) (news : List Value) : Prop where
  len : ∀ w', (Builtin.lenOf va).run P w' = .ok m w'
  cells : ∀ k (w' : World), k ≤ m → (∀ b off, w'.cell? ⟨b, off, none⟩ = w.cell? ⟨b, off, none⟩) → (Builtin.firstCells sz k va).run P w' = .ok (news.take (k * sz)).toArray w'
  length : news.length = m * sz
theorem row_ok {sz : Nat} {a : MV} {κ : List MV → Bool} (h : row sz H a κ = true) : ∃ new m, κ new = true ∧ new.length = m * sz ∧ ((∃ n off cp cs, a = .sl sz n off m cp ∧ look H n = some (.cells cs) ∧ new = (cs.drop off).take (m * sz)) ∨ (a = .v (.slice none 0 0) ∧ m = 0)) ∧
    ∀ {φ tmps w va} {c : Ctx}, St ρ c nx env H φ tmps w → Rel ρ φ nx a va → ∃ news, NewsM P w sz va m news ∧ Cells ρ φ nx 0 new news.toArray := by
  rcases onS_inv h with ⟨s, n, off, l, cp, rfl, h⟩ | ⟨n, off, rfl, h⟩ | ⟨v, rfl, h⟩
  · obtain ⟨h1, h⟩ := oc_inv h
    have e := Nat.eq_of_beq_eq_true h1
    obtain ⟨ob', h2, h⟩ := ob_inv h
    obtain ⟨cs, rfl, h⟩ := onCells_inv h
    obtain ⟨new, h3, h⟩ := ob_inv h
    obtain ⟨c1, c2, c3⟩ := cut_some h3
    have c2 : new.length = l * sz := c2
    have c3 : l * sz = 0 ∨ off + l * sz ≤ cs.length := c3
    refine ⟨new, l, h, c2, .inl ⟨n, off, cp, cs, by rw [e], h2, c1⟩, fun {φ tmps w va c} hs hr => ?_⟩
    obtain ⟨arr, ty, a1, a2, a3⟩ := (hs.ok.obj n _ h2).2
    cases hr with
    | sl g1 g2 g3 g4 g5 =>
      rename_i A cc
      by_cases hz : l * sz = 0
      · refine ⟨[], ⟨fun w' => by simp [Builtin.lenOf], fun k w' hk hw => ?_, by simp [hz]⟩, fun i d hd => ?_⟩
        · have : k * sz = 0 := by have := Nat.mul_le_mul_right sz hk; omega
          simp [Builtin.firstCells, this, loadCells, loadCellsFrom]
        · have hlt := (List.getElem?_eq_some_iff.1 hd).1
          omega
      · have hfit : off + l * sz ≤ cs.length := by omega
        have hbase : (φ n).base + cs.length ≤ arr.size := by
          obtain ⟨u, b1, _⟩ := a3 (cs.length - 1) cs[cs.length - 1] (by rw [List.getElem?_eq_getElem (by omega)])
          have := (Array.getElem?_eq_some_iff.1 b1).1
          omega
        have hcc : cc ≠ 0 := by intro h0; subst h0; have : l = 0 := by omega
                                subst this; simp at hz
        have hA := g5 hcc
        subst hA
        have hnl : ((arr.toList.drop ((φ n).base + off)).take (l * sz)).length = l * sz := by simp; omega
        refine ⟨(arr.toList.drop ((φ n).base + off)).take (l * sz), ⟨fun w' => by simp [Builtin.lenOf], fun k w' hk hw => ?_, hnl⟩, fun i d hd => ?_⟩
        · have hks := Nat.mul_le_mul_right sz hk
          simp only [Builtin.firstCells]
          refine run_loads w' _ _ (k * sz) (((arr.toList.drop ((φ n).base + off)).take (l * sz)).take (k * sz)) (by rw [List.length_take, hnl]; omega) (fun j v hj => ?_)
          rw [hw, cell_heap a1]
          simp only [List.getElem?_take, List.getElem?_drop, Array.getElem?_toList] at hj
          split at hj
          · split at hj
            · exact hj
            · cases hj
          · cases hj
        · have hi : i < l * sz := by rw [← c2]; exact (List.getElem?_eq_some_iff.1 hd).1
          rw [c1] at hd
          simp only [List.getElem?_take, List.getElem?_drop, Nat.mul_eq] at hd
          rw [if_pos hi] at hd
          obtain ⟨u, b1, b2, b3⟩ := a3 (off + i) d hd
          refine ⟨u, ?_, b2, b3⟩
          simp only [Nat.zero_add, List.getElem?_toArray, List.getElem?_take, List.getElem?_drop, Array.getElem?_toList, if_pos hi, Nat.add_assoc]
          exact b1
  · cases h
  · obtain ⟨h1, h⟩ := oc_inv h
    have e := nilSl_eq h1
    subst e
    refine ⟨[], 0, h, by simp, .inr ⟨rfl, rfl⟩, fun {φ tmps w va c} hs hr => ?_⟩
    cases hr
    exact ⟨[], ⟨fun w' => by simp [Builtin.lenOf], fun k w' hk hw => by simp [Builtin.firstCells], by simp⟩, fun i d hd => by simp at hd⟩
theorem tgrow_some {t : Nat} {r : Nat × Nat} (h : tgrow P t = some r) : ∃ e i z, P.underlying t = some (.slice e) ∧ P.info? e = some i ∧ i.size = r.1 ∧ i.bytes = r.2 ∧ i.zero = some z ∧ z.cells.size = r.1 ∧ 1 ≤ r.1 ∧ 1 ≤ r.2 := by
  unfold tgrow at h
  split at h
  · rename_i e hu
    split at h
    · rename_i i hi
      obtain ⟨h1, h⟩ := bi_some h
      obtain ⟨h2, h⟩ := bi_some h
      split at h
      · rename_i z hz
        obtain ⟨h3, h⟩ := bi_some h
        cases h
        exact ⟨e, i, z, hu, hi, rfl, rfl, hz, Nat.eq_of_beq_eq_true h3, Nat.le_of_ble_eq_true h1, Nat.le_of_ble_eq_true h2⟩
      · cases h
    · cases h
  · cases h
section
variable {t u ty e e' : Nat} {i : TypeInfo} {r : Nat × Nat} {vx : Value} {news : List Value} {m : Nat}
theorem run_apIn (hu : P.underlying t = some (.slice e)) (hi : P.info? e = some i) (h1 : i.size = r.1) (hq : P.underlying u = some (.slice e')) {A : Addr} {sLen sCap : Nat} (hn : NewsM P w r.1 vx m news) (hroom : sLen + m ≤ sCap)
    (hst : (storeCells (A.add (sLen * r.1)) news 0).run P w = .ok () w') : (Builtin.append_ #[t, u] ty #[.slice (some A) sLen sCap, vx]).run P w = .ok (.slice (some A) (sLen + m) sCap) w' := by
  have hc := hn.cells m w (Nat.le_refl m) (fun _ _ => rfl)
  rw [List.take_of_length_le (by rw [hn.length]; exact Nat.le_refl _)] at hc
  simp [Builtin.append_, run_underlying hu, run_underlying hq, info_size hi, h1, hn.len, hroom, hc, hst]
theorem run_apNone (hu : P.underlying t = some (.slice e)) (hi : P.info? e = some i) (h1 : i.size = r.1) (hq : P.underlying u = some (.slice e')) {A : Option Addr} {sLen sCap : Nat} (hn : NewsM P w r.1 vx 0 news) (hroom : sLen ≤ sCap) :
    (Builtin.append_ #[t, u] ty #[.slice A sLen sCap, vx]).run P w = .ok (.slice A sLen sCap) w := by
  have h0 : news = [] := List.eq_nil_of_length_eq_zero (by rw [hn.length]; simp)
  have hlen := hn.len w
  have hc := hn.cells 0 w (Nat.le_refl 0) (fun _ _ => rfl)
  subst h0
  cases A <;> simp [Builtin.append_, run_underlying hu, run_underlying hq, info_size hi, h1, hlen, hroom, hc, storeCells]
theorem run_apOut (hu : P.underlying t = some (.slice e)) (hi : P.info? e = some i) (h1 : i.size = r.1) (h2 : i.bytes = r.2) {z : Value} (hz : i.zero = some z) (hzs : z.cells.size = r.1) (hq : P.underlying u = some (.slice e')) {A : Option Addr} {sLen sCap : Nat} {olds : List Value}
    (hn : NewsM P w r.1 vx m news) (hroom : sCap < sLen + m) (ho : NewsM P w r.1 (.slice A sLen sCap) sLen olds) (hbytes : (sLen + m) * r.2 ≤ 140737488355328) (hb0 : r.2 ≠ 0) :
    ∃ cap rest, sLen + m ≤ cap ∧ rest.size = (cap - (sLen + m)) * r.1 ∧
      (Builtin.append_ #[t, u] ty #[.slice A sLen sCap, vx]).run P w = .ok (.slice (some ⟨w.heap.size, 0, none⟩) (sLen + m) cap) (w.drew.alloc (.cells (olds.toArray ++ news.toArray ++ rest) e)) := by
  refine ⟨grownCap w (sLen + m) sCap e, Builtin.zeroCells z.cells (grownCap w (sLen + m) sCap e - (sLen + m)), grownCap_ge w _ _ _, ?_, ?_⟩
  · simp [Builtin.zeroCells, hzs]
  · have hroom' : ¬ (sLen + m ≤ sCap) := by omega
    have hgrow := growslice_fits (bytes := r.2) hroom hbytes
    have hg2 : ¬ (281474976710656 < Builtin.nextslicecap (sLen + m) sCap * r.2) := by omega
    have hc := hn.cells m w.drew (Nat.le_refl m) (fun _ _ => rfl)
    rw [List.take_of_length_le (by rw [hn.length]; exact Nat.le_refl _)] at hc
    have hoc := ho.cells sLen w.drew (Nat.le_refl _) (fun _ _ => rfl)
    rw [List.take_of_length_le (by rw [ho.length]; exact Nat.le_refl _)] at hoc
    have htb : i.bytes ≠ 0 := by rw [h2]; exact hb0
    simp [Builtin.append_, run_underlying hu, run_underlying hq, sizeOf, typeInfo, zeroValue, hi, h1, h2, hz, hn.len, hroom', hb0, hg2, Question.forced, grownCap, hoc, hc, newRow]
    congr 2; apply Array.ext'; simp
end
theorem Cells.append {l1 l2 : List MV} {a1 a2 : List Value} {rest : Array Value} (h1 : Cells ρ φ nx 0 l1 a1.toArray) (h2 : Cells ρ φ nx 0 l2 a2.toArray) (hl : l1.length = a1.length) : Cells ρ φ nx 0 (l1 ++ l2) (a1.toArray ++ a2.toArray ++ rest) := by
  intro i d hd
  by_cases hi : i < l1.length
  · rw [List.getElem?_append_left hi] at hd
    obtain ⟨u, b1, b2, b3⟩ := h1 i d hd
    refine ⟨u, ?_, b2, b3⟩
    rw [Nat.zero_add] at b1 ⊢
    rw [Array.append_assoc, Array.getElem?_append, if_pos (by simp; omega)]; exact b1
  · rw [List.getElem?_append_right (by omega)] at hd
    obtain ⟨u, b1, b2, b3⟩ := h2 (i - l1.length) d hd
    refine ⟨u, ?_, b2, b3⟩
    rw [Nat.zero_add] at b1 ⊢
    have hlt := (Array.getElem?_eq_some_iff.1 b1).1
    simp only [List.size_toArray] at hlt
    rw [Array.append_assoc, Array.getElem?_append, if_neg (by simp; omega), Array.getElem?_append, if_pos (by simp; omega)]
    simp only [List.size_toArray, ← hl]; exact b1
theorem exec_appendM {t u : Nat} {s x : Operand} {tmps : Array Value} {w w' : World} {r v vx : Value} (ho : o.op = .call { callee := .builtin .append, args := #[s, x], argTypes := #[t, u] })
    (hv : (act tmps).eval s = v) (hx : (act tmps).eval x = vx) (hrun : (Builtin.append_ #[t, u] o.type #[v, vx]).run P w = .ok r w') : (execOp (act tmps).eval o).run P w = .ok (.value r) w' := exec_append ho hv hx hrun
theorem grown_inv {r : Nat × Nat} {l : Nat} {cs : List MV} {k : KV} (h : grown r l nx H cs k = true) : l * r.2 ≤ 140737488355328 ∧ k (.sl r.1 nx 0 l none) (nx + 1) ((nx, .cells cs) :: H) = true := by
  obtain ⟨h1, h2⟩ := oc_inv h
  exact ⟨Nat.le_of_ble_eq_true h1, h2⟩
theorem xAppend_ok {t u : Nat} {s x : Operand} {a b : MV} {k : KV} (ha : ev env s = some a) (hb : ev env x = some b) (h : xAppend P t u a b nx H k = true) :
    ∃ v nx' H', (∀ o c, o.op = .call { callee := .builtin .append, args := #[s, x], argTypes := #[t, u] } → DoesB ρ P o c nx env H v nx' H') ∧ k v nx' H' = true ∧ Suf H H' := by
  obtain ⟨r, h1, h⟩ := ob_inv h
  obtain ⟨_, h2, h⟩ := ob_inv h
  obtain ⟨e, i, z, hu, hi, i1, i2, hz, hzs, p1, p2⟩ := tgrow_some h1
  obtain ⟨e', hq, _⟩ := telem_some h2
  obtain ⟨new, m, h, n1, nsh, nn⟩ := row_ok (ρ := ρ) (P := P) (nx := nx) (env := env) h
  obtain ⟨old, l, h, o1, osh, oo⟩ := row_ok (ρ := ρ) (P := P) (nx := nx) (env := env) h
  have hm : Nat.div (len new) r.1 = m := by rw [len_eq, n1]; exact Nat.mul_div_cancel m (by omega)
  rw [hm] at h
  -- a row that grows, in a new block
  have grow : ∀ {φ tmps w} {c : Ctx} {o : Oper} {cc : Nat} {A : Option Addr} {H0 : Heap}, o.op = .call { callee := .builtin .append, args := #[s, x], argTypes := #[t, u] } → St ρ c nx env H φ tmps w → St ρ c nx env H0 φ tmps w →
      (act tmps).eval s = .slice A l cc → cc < l + m → (l + m) * r.2 ≤ 140737488355328 →
      ∃ φ' u w', (execOp (act tmps).eval o).run P w = .ok (.value u) w' ∧ St ρ c (nx + 1) env ((nx, .cells (old ++ new)) :: H0) φ' tmps w' ∧ Rel ρ φ' (nx + 1) (.sl r.1 nx 0 (l + m) none) u ∧ (∀ n, n < nx → φ' n = φ n) ∧ nx ≤ nx + 1 := by
    intro φ tmps w c o cc A H0 hop hs hs0 hv hcc hby
    obtain ⟨news, q1, q2⟩ := nn hs (ev_rel hs hb)
    obtain ⟨olds, q3, q4⟩ := oo hs (ev_rel hs ha)
    rw [hv] at q3
    obtain ⟨cap, rest, c1, c2, c3⟩ := run_apOut (ty := o.type) hu hi i1 i2 hz hzs hq q1 hcc q3 hby (by omega)
    have hn := hs0.newCells (w' := w.drew.alloc (.cells (olds.toArray ++ news.toArray ++ rest) e)) (e := e) rfl rfl rfl rfl (q4.append (rest := rest) q2 (by rw [o1, q3.length]))
    refine ⟨_, _, _, exec_append hop hv rfl c3, hn, ?_, upd_old, Nat.le_succ _⟩
    refine Rel.sl (A := ⟨w.heap.size, 0, none⟩) (Nat.lt_succ_self nx) c1 (fun d hd => by cases hd) ?_ (fun _ => ?_)
    · rw [updM_same]
      simp only [Array.size_append, List.size_toArray, q3.length, q1.length, c2, ← Nat.add_mul]
      have : l + m + (cap - (l + m)) = cap := by omega
      rw [this]; omega
    · rw [updM_same]
  rcases ow_inv h with ⟨e0, h⟩ | ⟨e0, h⟩
  · -- nothing laid behind
    rw [nilB_eq, List.isEmpty_iff] at e0
    subst e0
    have hm0 : m = 0 := by
      have n2 : m * r.1 = 0 := by simpa using n1.symm
      rcases Nat.mul_eq_zero.1 n2 with h | h
      · exact h
      · omega
    subst hm0
    refine ⟨a, nx, H, fun o c hop => DoesB.pure fun φ tmps w hs => ⟨_, ?_, ev_rel hs ha⟩, h, (by first | exact ⟨[], rfl⟩ | exact ⟨[_], rfl⟩ | exact ⟨[_, _], rfl⟩)⟩
    obtain ⟨news, q1, q2⟩ := nn hs (ev_rel hs hb)
    have hr := ev_rel hs ha
    rcases osh with ⟨n, off, cp, cs, rfl, _, _⟩ | ⟨rfl, rfl⟩
    · generalize hv : (act tmps).eval s = v at hr
      cases hr with
      | sl g1 g2 g3 g4 g5 => exact exec_append hop hv rfl (run_apNone hu hi i1 hq q1 g2)
    · generalize hv : (act tmps).eval s = v at hr
      cases hr
      exact exec_append hop hv rfl (run_apNone hu hi i1 hq q1 (Nat.le_refl 0))
  · have hne : m ≠ 0 := by
      intro h0; subst h0
      have : new = [] := List.eq_nil_of_length_eq_zero (by rw [n1]; simp)
      subst this
      cases e0
    rcases osh with ⟨n, off, cp, cs, rfl, hl, hold⟩ | ⟨rfl, rfl⟩
    · have h : apCap r n off l m cp old new nx H k = true := h
      cases cp with
      | none =>
        have h : grown r (l + m) nx ((n, .dead) :: H) (app old new) k = true := h
        obtain ⟨hby, hk⟩ := grown_inv h
        rw [app_eq] at hk
        refine ⟨_, _, _, fun o c hop => DoesB.value fun φ tmps w hs => ?_, hk, (by first | exact ⟨[], rfl⟩ | exact ⟨[_], rfl⟩ | exact ⟨[_, _], rfl⟩)⟩
        have hr := ev_rel hs ha
        generalize hv : (act tmps).eval s = v at hr
        cases hr with
        | sl g1 g2 g3 g4 g5 =>
          rename_i A cc
          by_cases hroom : l + m ≤ cc
          · -- in its own block
            obtain ⟨news, q1, q2⟩ := nn hs (ev_rel hs hb)
            have hA := g5 (by omega)
            have hs1 := hs.anew (off := off) hl
            obtain ⟨arr, ty, a1, a2, a3⟩ := (hs.ok.obj n _ hl).2
            have hnn : n ≠ nx := by have := (hs.ok.obj n _ hl).1; omega
            have hfit : (φ n).base + off + (l + m) * r.1 ≤ arr.size := by
              have := Nat.mul_le_mul_right r.1 hroom
              rw [a2]; omega
            have hnl := q1.length
            have hlm : (l + m) * r.1 = l * r.1 + m * r.1 := Nat.add_mul _ _ _
            have hst := run_storeCells_at P (φ n).blk ((φ n).base + off + l * r.1) ty news 0 arr w a1 (by omega) (fun v hv => by
              obtain ⟨q, hq'⟩ := List.getElem?_of_mem hv
              have hlt : q < new.length := by rw [n1, ← hnl]; exact (List.getElem?_eq_some_iff.1 hq').1
              obtain ⟨u', b1, b2, b3⟩ := q2 q new[q] (by simp [hlt])
              simp [hq'] at b1
              rw [b1]; exact b2)
            simp only [Nat.add_zero] at hst
            have hA2 : A.add (l * r.1) = ⟨(φ n).blk, (φ n).base + off + l * r.1, none⟩ := by rw [hA, add_plain]
            have e1 : arr.toList.take ((φ n).base + off + l * r.1) ++ news ++ arr.toList.drop ((φ n).base + off + l * r.1 + news.length) = splice arr.toList ((φ n).base + off + l * r.1) news := rfl
            have hw := hs1.write (n := nx) (o := .cells (cs.drop off)) (o' := .cells (old ++ new)) (w' := w.setRow (φ n).blk (arr.toList.take ((φ n).base + off + l * r.1) ++ news ++ arr.toList.drop ((φ n).base + off + l * r.1 + news.length)).toArray)
              (look_same _ _ _) (by simp) rfl rfl rfl (by simp) (fun b hb => setRow_other w _ b _ (by rw [updM_same] at hb; exact hb)) (by
                refine ⟨_, ty, by rw [updM_same]; exact setRow_heap w _ arr _ ty _ a1, ?_, fun j d hd => ?_⟩
                · rw [updM_same, e1, List.size_toArray, splice_length (by simp; omega), ← a2]; simp
                · rw [updM_same, e1, List.getElem?_toArray, splice_get (by simp; omega)]
                  simp only
                  by_cases hj : j < old.length
                  · rw [List.getElem?_append_left hj, hold] at hd
                    have hj' : j < l * r.1 := by rw [← o1]; exact hj
                    simp only [List.getElem?_take, List.getElem?_drop, if_pos hj'] at hd
                    obtain ⟨u', b1, b2, b3⟩ := a3 (off + j) d hd
                    refine ⟨u', ?_, b2, b3.step upd_old (Nat.le_succ _)⟩
                    rw [if_pos (by omega)]
                    simpa [Nat.add_assoc] using b1
                  · rw [List.getElem?_append_right (by omega)] at hd
                    obtain ⟨u', b1, b2, b3⟩ := q2 (j - old.length) d hd
                    have hlt : j - old.length < new.length := (List.getElem?_eq_some_iff.1 hd).1
                    refine ⟨u', ?_, b2, b3.step upd_old (Nat.le_succ _)⟩
                    rw [if_neg (by omega), if_pos (by omega)]
                    rw [show (φ n).base + off + j - ((φ n).base + off + l * r.1) = j - old.length by omega]
                    simpa using b1)
            have hw2 : St ρ c (nx + 1) env ((nx, .cells (old ++ new)) :: (n, .dead) :: H) (updM φ nx ⟨(φ n).blk, (φ n).base + off, (φ n).size⟩) tmps _ := hw.sub (H' := (nx, .cells (old ++ new)) :: (n, .dead) :: H) (fun m' o' hm' hd' => by
              by_cases e : nx = m'
              · subst e; rw [look_same] at hm' ⊢; exact hm'
              · rw [look_ne _ _ e] at hm'; rw [look_ne _ _ e, look_ne _ _ e]; exact hm') (fun m' hm' => by
              by_cases e : nx = m'
              · omega
              · rw [look_ne _ _ e] at hm'
                by_cases e2 : n = m'
                · have := (hs.ok.obj n _ hl).1; omega
                · rw [look_ne _ _ e2] at hm'; have := (hs.ok.obj m' _ hm').1; omega)
            refine ⟨_, _, _, exec_append hop hv rfl (run_apIn hu hi i1 hq q1 hroom (by rw [hA2]; exact hst)), hw2, ?_, upd_old, Nat.le_succ _⟩
            refine Rel.sl (Nat.lt_succ_self nx) hroom (fun d hd => by cases hd) ?_ (fun hc0 => ?_)
            · rw [updM_same]; simp only; omega
            · rw [updM_same, hA]; rfl
          · have hsd : St ρ c nx env ((n, .dead) :: H) φ tmps w := hs.sub (fun m' o' hm' hd' => by
              by_cases e : n = m'
              · subst e; rw [look_same] at hm'; cases hm'; exact absurd rfl hd'
              · rw [look_ne _ _ e] at hm'; exact hm') (fun m' hm' => by
              by_cases e : n = m'
              · have := (hs.ok.obj n _ hl).1; omega
              · rw [look_ne _ _ e] at hm'; exact (hs.ok.obj m' _ hm').1)
            exact grow hop hs hsd hv (by omega) hby
      | some cap =>
        have h : ow (Nat.ble (Nat.add l m) cap) (st H n (Nat.add off (Nat.mul l r.1)) new fun H' => k (.sl r.1 n off (Nat.add l m) (some cap)) nx H') (grown r (Nat.add l m) nx H (app old new) k) = true := h
        rcases ow_inv h with ⟨b1, h⟩ | ⟨b1, h⟩
        · have hroom : l + m ≤ cap := Nat.le_of_ble_eq_true b1
          obtain ⟨l1, l2, h3, h4, hk⟩ := st_inv h
          refine ⟨_, _, _, fun o c hop => DoesB.value fun φ tmps w hs => ?_, hk, (by first | exact ⟨[], rfl⟩ | exact ⟨[_], rfl⟩ | exact ⟨[_, _], rfl⟩)⟩
          obtain ⟨news, q1, q2⟩ := nn hs (ev_rel hs hb)
          have hr := ev_rel hs ha
          generalize hv : (act tmps).eval s = v at hr
          cases hr with
          | sl g1 g2 g3 g4 g5 =>
            rename_i A cc
            have hcc := g3 cap rfl
            subst hcc
            have hA := g5 (by omega)
            obtain ⟨w', k1, k2⟩ := hs.laid (P := P) h3 h4 (news := news) (by rw [q1.length, n1]) q2
            have hA2 : A.add (l * r.1) = ⟨(φ n).blk, (φ n).base + (off + l * r.1), none⟩ := by rw [hA, add_plain, Nat.add_assoc]
            refine ⟨φ, _, w', exec_append hop hv rfl (run_apIn hu hi i1 hq q1 hroom (by rw [hA2]; exact k1)), k2, ?_, fun _ _ => rfl, Nat.le_refl _⟩
            exact Rel.sl g1 hroom g3 g4 g5
        · have hroom : ¬ (l + m ≤ cap) := fun hle => by rw [show Nat.ble (Nat.add l m) cap = true from Nat.ble_eq_true_of_le hle] at b1; cases b1
          obtain ⟨hby, hk⟩ := grown_inv h
          rw [app_eq] at hk
          refine ⟨_, _, _, fun o c hop => DoesB.value fun φ tmps w hs => ?_, hk, (by first | exact ⟨[], rfl⟩ | exact ⟨[_], rfl⟩ | exact ⟨[_, _], rfl⟩)⟩
          have hr := ev_rel hs ha
          generalize hv : (act tmps).eval s = v at hr
          cases hr with
          | sl g1 g2 g3 g4 g5 =>
            rename_i A cc
            have hcc := g3 cap rfl
            subst hcc
            exact grow hop hs hs hv (by omega) hby
    · have h : grown r m nx H new k = true := h
      obtain ⟨hby, hk⟩ := grown_inv h
      have ho0 : old = [] := List.eq_nil_of_length_eq_zero (by rw [o1]; simp)
      subst ho0
      refine ⟨_, _, _, fun o c hop => DoesB.value fun φ tmps w hs => ?_, hk, (by first | exact ⟨[], rfl⟩ | exact ⟨[_], rfl⟩ | exact ⟨[_, _], rfl⟩)⟩
      have hr := ev_rel hs ha
      generalize hv : (act tmps).eval s = v at hr
      cases hr
      have := grow hop hs hs hv (by omega) (by rw [Nat.zero_add]; exact hby)
      simpa using this
end
end Go.Proofs.YtnajikpdnccilaaGreat.Pv.M
