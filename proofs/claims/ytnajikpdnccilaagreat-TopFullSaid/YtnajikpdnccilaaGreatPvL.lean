/- append, copy, bytes as a text. -/
import Derived.Test.YtnajikpdnccilaaGreatPvK
import Derived.Laws.IdiomCopy
import Derived.MapKept
set_option linter.unusedVariables false
set_option linter.unusedSimpArgs false
namespace Go.Proofs.YtnajikpdnccilaaGreat.Pv
open Go

section
variable {P : Program} {tab : Tab} {c : Ctx} {nx : Nat} {env : Env} {H H' : Heap} {K : PV → Nat → Heap → Prop} {o : Oper}

/-- The cells of what is laid behind. -/
structure News (P : Program) (w : World) (S : Nat → Nat → Prop) (sz : Nat) (vx : Value) (xs : List FV) (news : List Value) : Prop where
  len : ∀ w', (Builtin.lenOf vx).run P w' = .ok xs.length w'
  cells : ∀ w' : World, (∀ b off, w'.cell? ⟨b, off, none⟩ = w.cell? ⟨b, off, none⟩) → (Builtin.firstCells sz xs.length vx).run P w' = .ok news.toArray w'
  length : news.length = xs.length * sz
  one : ∀ v ∈ news, one v = true
  elem : ∀ (i : Nat) y, xs[i]? = some y → y.cells.length = sz
  rep : ∀ (i : Nat) y (j : Nat) d, xs[i]? = some y → y.cells[j]? = some d → ∃ u, news[i * sz + j]? = some u ∧ Pv.one u = true ∧ RepF w S d u

theorem div_mod_lt {q n sz : Nat} (h : q < n * sz) : q / sz < n ∧ q % sz < sz := by
  have hp : 0 < sz := by rcases Nat.eq_zero_or_pos sz with h0 | h0; subst h0; simp at h; exact h0
  exact ⟨Nat.div_lt_of_lt_mul (by rw [Nat.mul_comm]; exact h), Nat.mod_lt _ hp⟩

theorem Holds.news {φ : Nat → Phys} {tmps : Array Value} {w : World} (hs : StΦ c nx env H φ tmps w) {x : Operand} {sz : Nat} {xs : List FV} (h : Holds env H x sz xs) :
    ∃ news, News P w (SS c.So φ H) sz ((act tmps).eval x) xs news := by
  obtain ⟨a, cap, k1, k2, k3, k4, k5⟩ := h.lies hs
  cases a with
  | none =>
    obtain ⟨rfl, rfl⟩ := k3 rfl
    exact ⟨[], ⟨fun w' => by rw [k1]; rfl, fun w' _ => by rw [k1]; simp [Builtin.firstCells], by simp, by simp, fun i y hy => by simp at hy, fun i y j d hy => by simp at hy⟩⟩
  | some p =>
    by_cases hx : xs = []
    · subst hx
      refine ⟨[], ⟨fun w' => by rw [k1]; rfl, fun w' _ => by rw [k1]; simp [Builtin.firstCells, loadCells, loadCellsFrom], by simp, by simp, fun i y hy => by simp at hy, fun i y j d hy => by simp at hy⟩⟩
    · obtain ⟨hsp, hc⟩ := k5 p rfl hx
      obtain ⟨pb, po, psp⟩ := p
      simp only at hsp hc
      subst hsp
      have hall : ∀ q, q < xs.length * sz → ∃ u, w.cell? ⟨pb, po + q, none⟩ = some u ∧ Pv.one u = true := by
        intro q hq
        obtain ⟨h1, h2⟩ := div_mod_lt hq
        have hcl := k4 (q / sz) xs[q / sz] (by simp [h1])
        obtain ⟨u, a1, a2, _⟩ := hc (q / sz) xs[q / sz] (q % sz) (xs[q / sz].cells[q % sz]'(by rw [hcl]; exact h2)) (by simp [h1]) (by simp)
        refine ⟨u, ?_, a2⟩
        rw [Nat.add_assoc, Nat.div_add_mod' q sz] at a1
        exact a1
      refine ⟨(List.range (xs.length * sz)).map fun q => (w.cell? ⟨pb, po + q, none⟩).getD undef, ⟨fun w' => by rw [k1]; rfl, fun w' hw' => ?_, by simp, fun v hv => ?_, k4, fun i y j d hy hd => ?_⟩⟩
      · rw [k1]
        refine run_firstCells_some (P := P) w' sz xs.length ⟨pb, po, none⟩ xs.length cap _ (by simp) fun j v hj => ?_
        simp only [List.getElem?_map, Option.map_eq_some_iff] at hj
        obtain ⟨q, q1, q2⟩ := hj
        have hlt : j < xs.length * sz := by have := (List.getElem?_eq_some_iff.1 q1).1; simpa using this
        simp [hlt] at q1
        subst q1
        obtain ⟨u, u1, _⟩ := hall j hlt
        rw [add_plain, hw', ← q2, u1]; rfl
      · simp only [List.mem_map, List.mem_range] at hv
        obtain ⟨q, q1, rfl⟩ := hv
        obtain ⟨u, u1, u2⟩ := hall q q1
        rw [u1]; exact u2
      · have hil : i < xs.length := (List.getElem?_eq_some_iff.1 hy).1
        have hjl : j < sz := by rw [← k4 i y hy]; exact (List.getElem?_eq_some_iff.1 hd).1
        obtain ⟨u, a1, a2, a3⟩ := hc i y j d hy hd
        have hlt : i * sz + j < xs.length * sz := by
          have := Nat.mul_le_mul_right sz (show i + 1 ≤ xs.length by omega)
          rw [Nat.add_mul] at this; omega
        refine ⟨u, ?_, a2, a3⟩
        simp only [List.getElem?_map, List.getElem?_range hlt, Option.map_some]
        rw [← Nat.add_assoc, a1]; rfl

theorem news_chars (s : ByteArray) (w : World) (S : Nat → Nat → Prop) : News P w S 1 (.string s) (charsOf s) ((s.data.map fun b => Value.int .u8 b.toNat).toList) := by
  have hl : (charsOf s).length = s.size := by simp [charsOf]
  refine ⟨fun w' => by rw [hl]; rfl, fun w' _ => ?_, by rw [hl]; simp, fun v hv => ?_, fun i y hy => ?_, fun i y j d hy hd => ?_⟩
  · rw [hl]
    simp only [Builtin.firstCells, Sem.run_pure]
    have : s.extract 0 s.size = s := by simp
    rw [this]
  · simp at hv
    obtain ⟨b, _, rfl⟩ := hv
    rfl
  · simp only [charsOf, List.getElem?_map, Option.map_eq_some_iff] at hy
    obtain ⟨b, _, rfl⟩ := hy
    rfl
  · simp only [charsOf, List.getElem?_map, Option.map_eq_some_iff] at hy
    obtain ⟨b, hb, rfl⟩ := hy
    cases j with
    | zero =>
      simp [FV.cells] at hd; subst hd
      refine ⟨.int .u8 b.toNat, ?_, rfl, .v _⟩
      simp at hb ⊢
      exact ⟨b, hb, rfl⟩
    | succ j => simp [FV.cells] at hd

/-- The arm with room: in its own block. -/
theorem run_append_in {t u ty e : Nat} {ie : TI} (ht : TabOk P tab) (hu : P.underlying t = some (.slice e)) (he : tab e = some ie) (hz : (∃ e', P.underlying u = some (.slice e')) ∨ P.underlying u = some .string)
    {b off sLen sCap : Nat} {vx : Value} {xs : List FV} {news : List Value} {w : World} {S : Nat → Nat → Prop} (hn : News P w S ie.size vx xs news) (hroom : sLen + xs.length ≤ sCap) {arr : Array Value} {bt : Nat}
    (hb : w.heap[b]? = some (.cells arr bt (0, 0))) (hfit : off + (sLen + xs.length) * ie.size ≤ arr.size) :
    (Builtin.append_ #[t, u] ty #[.slice (some ⟨b, off, none⟩) sLen sCap, vx]).run P w =
      .ok (.slice (some ⟨b, off, none⟩) (sLen + xs.length) sCap) (w.setRow b (arr.toList.take (off + sLen * ie.size) ++ news ++ arr.toList.drop (off + sLen * ie.size + news.length)).toArray) := by
  have hst := run_storeCells_at P b (off + sLen * ie.size) bt news 0 arr w hb (by rw [hn.length]; rw [Nat.add_mul] at hfit; omega) hn.one
  simp only [Nat.add_zero] at hst
  rcases hz with ⟨e', hq⟩ | hq <;>
    simp [Builtin.append_, run_underlying hu, run_underlying hq, run_size ht he, hn.len, hroom, hn.cells w (fun _ _ => rfl), add_plain, hst]

/-- Nothing laid behind. -/
theorem run_append_none {t u ty e : Nat} {ie : TI} (ht : TabOk P tab) (hu : P.underlying t = some (.slice e)) (he : tab e = some ie) (hz : (∃ e', P.underlying u = some (.slice e')) ∨ P.underlying u = some .string)
    {A : Option Addr} {sLen sCap : Nat} {vx : Value} {news : List Value} {w : World} {S : Nat → Nat → Prop} (hn : News P w S ie.size vx [] news) (hroom : sLen ≤ sCap) :
    (Builtin.append_ #[t, u] ty #[.slice A sLen sCap, vx]).run P w = .ok (.slice A sLen sCap) w := by
  have h0 : news = [] := List.eq_nil_of_length_eq_zero (by rw [hn.length]; simp)
  have hlen := hn.len w
  have hcells := hn.cells w (fun _ _ => rfl)
  subst h0
  simp only [List.length_nil] at hlen hcells
  rcases hz with ⟨e', hq⟩ | hq <;> cases A <;> simp [Builtin.append_, run_underlying hu, run_underlying hq, run_size ht he, hlen, hroom, hcells, storeCells]

/-- The arm that grows. -/
theorem run_append_out {t u ty e : Nat} {ie : TI} (ht : TabOk P tab) (hu : P.underlying t = some (.slice e)) (he : tab e = some ie) (hz : (∃ e', P.underlying u = some (.slice e')) ∨ P.underlying u = some .string)
    {A : Option Addr} {sLen sCap : Nat} {vx : Value} {xs : List FV} {news olds : List Value} {w : World} {S : Nat → Nat → Prop} (hn : News P w S ie.size vx xs news) (hroom : sCap < sLen + xs.length)
    (ho : (Builtin.firstCells ie.size sLen (.slice A sLen sCap)).run P w.drew = .ok olds.toArray w.drew) (hbytes : (sLen + xs.length) * ie.bytes ≤ 140737488355328) (hb0 : ie.bytes ≠ 0) :
    ∃ cap rest, sLen + xs.length ≤ cap ∧ rest.size = (cap - (sLen + xs.length)) * ie.size ∧
      (Builtin.append_ #[t, u] ty #[.slice A sLen sCap, vx]).run P w = .ok (.slice (some ⟨w.heap.size, 0, none⟩) (sLen + xs.length) cap) (w.drew.alloc (.cells (olds.toArray ++ news.toArray ++ rest) e)) := by
  obtain ⟨ti, z, z1, z2, z3, z4, z5, z6⟩ := (ht e ie he).info
  have hzl := (ht e ie he).len
  refine ⟨grownCap w (sLen + xs.length) sCap e, Builtin.zeroCells z.cells (grownCap w (sLen + xs.length) sCap e - (sLen + xs.length)), grownCap_ge w _ _ _, ?_, ?_⟩
  · simp [Builtin.zeroCells, z5, hzl]
  · 
      have hroom' : ¬ (sLen + xs.length ≤ sCap) := by omega
      have hgrow := growslice_fits (bytes := ie.bytes) hroom hbytes
      have hg2 : ¬ (281474976710656 < Builtin.nextslicecap (sLen + xs.length) sCap * ie.bytes) := by omega
      have hcells := hn.cells w.drew (fun _ _ => rfl)
      have htb : ti.bytes ≠ 0 := by rw [z3]; exact hb0
      rcases hz with ⟨e', hq⟩ | hq <;>
        simp [Builtin.append_, run_underlying hu, run_underlying hq, sizeOf, typeInfo, zeroValue, z1, z2, z3, z4, hn.len, hroom', hb0, hg2, Question.forced, grownCap, ho, hcells, newRow] <;>
        (congr 2; apply Array.ext'; simp)

/-- What is laid behind: a slice's elements, a text's bytes. -/
def Src (tab : Tab) (env : Env) (H : Heap) (u : Nat) (x : Operand) (sz : Nat) (xs : List FV) : Prop :=
  ∃ iu, tab u = some iu ∧ ((∃ e, iu.kd = .slice e ∧ Holds env H x sz xs) ∨ (∃ s, iu.kd = .str ∧ sz = 1 ∧ ev env x = some (.f (.v (.string s))) ∧ xs = charsOf s))

theorem Src.news {φ : Nat → Phys} {tmps : Array Value} {w : World} (ht : TabOk P tab) (hs : StΦ c nx env H φ tmps w) {u : Nat} {x : Operand} {sz : Nat} {xs : List FV} (h : Src tab env H u x sz xs) :
    ((∃ e', P.underlying u = some (.slice e')) ∨ P.underlying u = some .string) ∧ ∃ news, News P w (SS c.So φ H) sz ((act tmps).eval x) xs news := by
  obtain ⟨iu, h1, ⟨e, h2, h3⟩ | ⟨s, h2, rfl, h3, rfl⟩⟩ := h
  · exact ⟨.inl ⟨e, under_slice ht h1 h2⟩, h3.news hs⟩
  · rw [(ev_rep hs h3).v_inv]
    exact ⟨.inr (under_str ht h1 h2), _, news_chars s w _⟩

def stepAppend (tab : Tab) (env : Env) (H : Heap) (nx : Nat) (K : PV → Nat → Heap → Prop) (t u : Nat) (s x : Operand) : Prop :=
  ∃ i e ie xs, tab t = some i ∧ i.kd = .slice e ∧ tab e = some ie ∧ ie.size ≠ 0 ∧ ie.bytes ≠ 0 ∧ Src tab env H u x ie.size xs ∧
    ((∃ n lo wr l, ev env s = some (.ref n lo none) ∧ look H n = some (.buf wr ie.size l) ∧ (l.length + xs.length) * ie.bytes ≤ 140737488355328 ∧
        K (.ref nx 0 none) (nx + 1) ((nx, .buf wr ie.size (l.drop lo ++ xs)) :: drop H n)) ∨
     (ev env s = some (.f (.v (.slice none 0 0))) ∧ xs.length * ie.bytes ≤ 140737488355328 ∧ K (.ref nx 0 none) (nx + 1) ((nx, .buf true ie.size xs) :: H)) ∨
     (∃ l, ev env s = some (.f (.sl ie.size true l)) ∧ (l.length + xs.length) * ie.bytes ≤ 140737488355328 ∧ xs ≠ [] ∧ K (.ref nx 0 none) (nx + 1) ((nx, .buf true ie.size (l ++ xs)) :: H)) ∨
     (∃ l, ev env s = some (.f (.sl ie.size true l)) ∧ xs = [] ∧ K (.f (.sl ie.size true l)) nx H))

theorem exec_append {t u : Nat} {s x : Operand} {tmps : Array Value} {w w' : World} {r v vx : Value} (ho : o.op = .call { callee := .builtin .append, args := #[s, x], argTypes := #[t, u] })
    (hv : (act tmps).eval s = v) (hx : (act tmps).eval x = vx) (hrun : (Builtin.append_ #[t, u] o.type #[v, vx]).run P w = .ok r w') : (execOp (act tmps).eval o).run P w = .ok (.value r) w' := by
  simp only [execOp, ho, resolve, invoke, builtin]
  have e1 : #[s, x].map (act tmps).eval = #[v, vx] := by simp [hv, hx]
  simp only [Sem.run_bind, Sem.run_pure, Result.andThen_ok, e1, hrun]

/-- Rows of cells, one behind the other, as one row of elements. -/
theorem two_rows {S : Nat → Nat → Prop} {w : World} {sz : Nat} {l xs : List FV} {olds news : List Value} {arr : Array Value} {rest : Array Value} (harr : arr = olds.toArray ++ news.toArray ++ rest) (hol : olds.length = l.length * sz) (hnl : news.length = xs.length * sz)
    (ho : ∀ (i : Nat) y (j : Nat) d, l[i]? = some y → y.cells[j]? = some d → ∃ u, olds[i * sz + j]? = some u ∧ one u = true ∧ RepF w S d u) (hl : ∀ (i : Nat) y, l[i]? = some y → y.cells.length = sz)
    (hn : ∀ (i : Nat) y (j : Nat) d, xs[i]? = some y → y.cells[j]? = some d → ∃ u, news[i * sz + j]? = some u ∧ one u = true ∧ RepF w S d u) (hx : ∀ (i : Nat) y, xs[i]? = some y → y.cells.length = sz) :
    ∀ (i : Nat) y (j : Nat) d, (l ++ xs)[i]? = some y → y.cells[j]? = some d → ∃ u, arr[i * sz + j]? = some u ∧ one u = true ∧ RepF w S d u := by
  intro i y j d hy hd
  subst harr
  by_cases hi : i < l.length
  · rw [List.getElem?_append_left hi] at hy
    have hj : j < sz := by rw [← hl i y hy]; exact (List.getElem?_eq_some_iff.1 hd).1
    obtain ⟨u, a1, a2, a3⟩ := ho i y j d hy hd
    refine ⟨u, ?_, a2, a3⟩
    have hlt : i * sz + j < olds.length := (List.getElem?_eq_some_iff.1 a1).1
    rw [Array.getElem?_append, if_pos (by simp; omega), Array.getElem?_append, if_pos (by simpa using hlt)]
    simpa using a1
  · rw [List.getElem?_append_right (by omega)] at hy
    have hj : j < sz := by rw [← hx _ y hy]; exact (List.getElem?_eq_some_iff.1 hd).1
    obtain ⟨u, a1, a2, a3⟩ := hn _ y j d hy hd
    refine ⟨u, ?_, a2, a3⟩
    have hlt : (i - l.length) * sz + j < news.length := (List.getElem?_eq_some_iff.1 a1).1
    have e : i * sz = l.length * sz + (i - l.length) * sz := by rw [← Nat.add_mul]; congr 1; omega
    rw [Array.getElem?_append, if_pos (by simp; omega), Array.getElem?_append, if_neg (by simp; omega)]
    simp only [List.size_toArray, List.getElem?_toArray]
    rw [show i * sz + j - olds.length = (i - l.length) * sz + j by omega]
    exact a1

theorem append_get {l xs : List FV} {sz : Nat} (hl : ∀ (i : Nat) y, l[i]? = some y → y.cells.length = sz) (hx : ∀ (i : Nat) y, xs[i]? = some y → y.cells.length = sz) : ∀ (i : Nat) y, (l ++ xs)[i]? = some y → y.cells.length = sz := by
  intro i y hy
  by_cases hi : i < l.length
  · rw [List.getElem?_append_left hi] at hy; exact hl i y hy
  · rw [List.getElem?_append_right (by omega)] at hy; exact hx _ y hy

/-- What is in hand, and what is laid behind it, in a new block. -/
theorem append_grow (ht : TabOk P tab) {φ : Nat → Phys} {tmps : Array Value} {w : World} (hs : StΦ c nx env H φ tmps w) {t u ty e : Nat} {ie : TI} (hu : P.underlying t = some (.slice e)) (he : tab e = some ie)
    (hz : (∃ e', P.underlying u = some (.slice e')) ∨ P.underlying u = some .string) {A : Option Addr} {sCap : Nat} {vx : Value} {l xs : List FV} {news : List Value}
    (hn : News P w (SS c.So φ H) ie.size vx xs news) (hroom : sCap < l.length + xs.length) (hbytes : (l.length + xs.length) * ie.bytes ≤ 140737488355328) (hb0 : ie.bytes ≠ 0)
    (hold : ∃ olds : List Value, (Builtin.firstCells ie.size l.length (.slice A l.length sCap)).run P w.drew = .ok olds.toArray w.drew ∧ olds.length = l.length * ie.size ∧
      ∀ (i : Nat) y (j : Nat) d, l[i]? = some y → y.cells[j]? = some d → ∃ u, olds[i * ie.size + j]? = some u ∧ one u = true ∧ RepF w (SS c.So φ H) d u) (hl : ∀ (i : Nat) y, l[i]? = some y → y.cells.length = ie.size) :
    ∃ φ' r w', (Builtin.append_ #[t, u] ty #[.slice A l.length sCap, vx]).run P w = .ok r w' ∧ StΦ c (nx + 1) env ((nx, .buf true ie.size (l ++ xs)) :: H) φ' tmps w' ∧ (∀ S, Rep φ' (nx + 1) w' S (.ref nx 0 none) r) ∧ ∀ n, n < nx → φ' n = φ n := by
  obtain ⟨olds, o1, o2, o3⟩ := hold
  obtain ⟨cap, rest, c1, c2, c3⟩ := run_append_out (ty := ty) ht hu he hz hn hroom o1 hbytes hb0
  obtain ⟨n1, n2⟩ := hs.newBuf (w' := w.drew.alloc (.cells (olds.toArray ++ news.toArray ++ rest) e)) (sz := ie.size) (cap := cap) (ys := l ++ xs) (arr := olds.toArray ++ news.toArray ++ rest) (e := e) rfl rfl rfl rfl
    (by rw [List.length_append]; exact c1)
    (by
      simp only [Array.size_append, List.size_toArray, o2, hn.length, c2]
      rw [← Nat.add_mul, ← Nat.add_mul]
      exact Nat.le_of_eq (by congr 1; omega))
    (append_get hl hn.elem)
    (two_rows rfl o2 hn.length o3 hl hn.rep hn.elem)
  rw [List.length_append] at n1 n2
  exact ⟨_, _, _, c3, n1, n2, fun n hn => upd_ne _ _ (by omega)⟩

theorem StΦ.let_go' {φ : Nat → Phys} {tmps : Array Value} {w : World} {m : Nat} {ob : Obj} (h : StΦ c nx env ((m, ob) :: H) φ tmps w) {n : Nat} (hne : m ≠ n) : StΦ c nx env ((m, ob) :: drop H n) φ tmps w := by
  have := h.let_go n
  simpa [drop, hne] using this


/-- Laid behind, in its own block. -/
theorem StΦ.laid {φ : Nat → Phys} {tmps : Array Value} {w : World} (hs : StΦ c nx env H φ tmps w) {n : Nat} {wr : Bool} {sz : Nat} {l l2 xs : List FV} {news : List Value} {vx : Value} {arr : Array Value} {ty B cap sLen : Nat}
    (k2 : look H n = some (.buf wr sz l)) (hnil : (φ n).nil = false) (a1 : w.heap[(φ n).blk]? = some (.cells arr ty (0, 0))) (hB : B + cap * sz ≤ arr.size) (hbl : (φ n).base + l.length * sz = B + sLen * sz) (hl2 : l2.length = sLen)
    (hel : ∀ (i : Nat) x, l2[i]? = some x → x.cells.length = sz)
    (hold : ∀ (i : Nat) x (j : Nat) d, l2[i]? = some x → x.cells[j]? = some d → ∃ u, arr[B + i * sz + j]? = some u ∧ one u = true ∧ RepF w (SS c.So φ H) d u)
    (hn : News P w (SS c.So φ H) sz vx xs news) (hroom : sLen + xs.length ≤ cap) :
    StΦ c (nx + 1) env ((nx, .buf wr sz (l2 ++ xs)) :: drop H n) (upd φ nx ⟨(φ n).blk, B, cap, (l2 ++ xs).length, sz, false⟩) tmps (w.setRow (φ n).blk (splice arr.toList (B + sLen * sz) news).toArray) := by
  have hfit : B + sLen * sz + news.length ≤ arr.toList.length := by
    have := Nat.mul_le_mul_right sz hroom
    rw [Nat.add_mul, ← hn.length] at this
    simp; omega
  refine hs.write (n := n) (m := nx) (nx' := nx + 1) k2 hnil (.inr ⟨rfl, rfl⟩) rfl rfl ?_ rfl rfl rfl (by simp) (fun b hb => setRow_other w _ b _ hb) (fun q hq => ?_) (fun hm => ?_)
  · cases wr with
    | true => simp [lim]
    | false => simp only [lim, List.length_append, hl2, Nat.add_mul]; omega
  · cases wr with
    | true => simp [lim] at hq
    | false =>
      simp only [lim] at hq
      rw [cell_heap (setRow_heap w _ arr _ ty _ a1), cell_heap a1, List.getElem?_toArray, splice_get hfit, if_pos (by omega)]
      simp
  · simp only [SatO, upd_same]
    refine ⟨trivial, trivial, .inr ⟨trivial, _, ty, setRow_heap w _ arr _ ty _ a1, ?_, by rw [List.length_append, hl2]; exact hroom, append_get hel hn.elem, fun i x j d h1 h2 => ?_⟩⟩
    · simp only [List.size_toArray]; rw [splice_length hfit]; simpa using hB
    · rw [List.getElem?_toArray, splice_get hfit]
      by_cases hi : i < l2.length
      · rw [List.getElem?_append_left hi] at h1
        obtain ⟨u, u1, u2, u3⟩ := hold i x j d h1 h2
        have hj : j < sz := by rw [← hel i x h1]; exact (List.getElem?_eq_some_iff.1 h2).1
        have := Nat.mul_le_mul_right sz (show i + 1 ≤ sLen by omega)
        rw [Nat.add_mul] at this
        exact ⟨u, by rw [if_pos (by omega)]; simpa using u1, u2, u3.step hm⟩
      · rw [List.getElem?_append_right (by omega)] at h1
        obtain ⟨u, u1, u2, u3⟩ := hn.rep _ x j d h1 h2
        have hlt := (List.getElem?_eq_some_iff.1 u1).1
        have e : i * sz = sLen * sz + (i - l2.length) * sz := by rw [← Nat.add_mul]; congr 1; omega
        refine ⟨u, ?_, u2, u3.step hm⟩
        rw [if_neg (by omega), if_pos (by omega)]
        rw [show B + i * sz + j - (B + sLen * sz) = (i - l2.length) * sz + j by omega]
        exact u1

theorem does_append (ht : TabOk P tab) {t u : Nat} {s x : Operand} (ho : o.op = .call { callee := .builtin .append, args := #[s, x], argTypes := #[t, u] }) (h : stepAppend tab env H nx K t u s x) : Does P o c nx env H K :=
  Does.value fun φ tmps w hs => by
    obtain ⟨i, e, ie, xs, h1, h2, h3, h4, hb0, h5, h⟩ := h
    have hu := under_slice ht h1 h2
    obtain ⟨hz, news, hn⟩ := h5.news ht hs
    rcases h with ⟨n, lo, wr, l, k1, k2, k3, k4⟩ | ⟨k1, k3, k4⟩ | ⟨l, k1, k3, k5, k4⟩ | ⟨l, k1, k5, k4⟩
    · have hr := ev_rep hs k1
      obtain ⟨hnx, e1, e2, e3⟩ := hs.ok.obj n _ k2
      generalize hv : (act tmps).eval s = v at hr
      cases hr with
      | @refnil _ _ hlt hnil hlen hh0 =>
        have hl0 : l = [] := by rw [e1] at hlen; exact List.eq_nil_of_length_eq_zero hlen
        subst hl0
        by_cases hx : xs = []
        · subst hx
          have hrun := run_append_none (ty := o.type) ht hu h3 hz (A := none) (sLen := 0) (sCap := 0) hn (Nat.le_refl 0)
          refine ⟨_, _, _, upd φ nx ⟨0, 0, 0, 0, ie.size, true⟩, _, w, exec_append ho hv rfl hrun, k4, ?_, ?_⟩
          · have := hs.nilbuf wr ie.size
            exact this.let_go' (by omega)
          · exact .refnil (Nat.lt_succ_self _) (by rw [upd_same]) (by rw [upd_same]) rfl
        · have hlx : 0 < xs.length := List.length_pos_iff.2 hx
          obtain ⟨φ', r, w', g1, g2, g3, g4⟩ := append_grow (ty := o.type) (l := []) ht hs hu h3 hz (A := none) (sCap := 0) hn (by simpa using hlx) (by simpa using k3) hb0 ⟨[], by simp [Builtin.firstCells], by simp, fun i y j d hy => by simp at hy⟩ (fun i y hy => by simp at hy)
          have hst : StΦ c (nx + 1) env ((nx, .buf wr ie.size (List.drop 0 [] ++ xs)) :: drop H n) φ' tmps w' := by
            cases wr with
            | true => simpa using g2.let_go' (n := n) (by omega)
            | false =>
              have := (g2.let_go' (n := n) (by omega)).freeze (look_cons_same _ _ _)
              refine this.sub fun m ob hm => ?_
              by_cases em : nx = m
              · subst em; rw [look_cons_same] at hm; rw [look_hput_same]; simpa using hm
              · rw [look_cons_ne _ _ em] at hm; rw [look_hput_ne _ _ em, look_cons_ne _ _ em]; exact hm
          exact ⟨_, _, _, φ', r, w', exec_append ho hv rfl g1, k4, hst, g3 _⟩
      | @ref _ _ _ cap A hlt hnil b1 b2 b3 b4 b5 =>
        rcases e3 with ⟨e3, _⟩ | ⟨_, arr, ty, a1, a2, a3, a4, a5⟩
        · rw [hnil] at e3; cases e3
        simp only [Option.getD_none] at b1 b2 hv
        rw [e1] at b1 b4 hv
        have hvn : view lo none l = l.drop lo := rfl
        have hH : Holds env H s ie.size (l.drop lo) := .inr (.inr ⟨n, lo, none, wr, l, k1, k2, rfl⟩)
        have hdl : (l.drop lo).length = l.length - lo := by simp
        have hmul : (φ n).base + lo * ie.size + (l.length - lo) * ie.size = (φ n).base + l.length * ie.size := by rw [Nat.add_assoc, ← Nat.add_mul]; congr 2; omega
        have hold : ∀ (i : Nat) x (j : Nat) d, (l.drop lo)[i]? = some x → x.cells[j]? = some d → ∃ u, arr[(φ n).base + lo * ie.size + i * ie.size + j]? = some u ∧ one u = true ∧ RepF w (SS c.So φ H) d u := by
          intro i x j d hx hd
          rw [List.getElem?_drop] at hx
          obtain ⟨u, u1, u2, u3⟩ := a5 _ x j d hx hd
          rw [Nat.add_mul] at u1
          exact ⟨u, by rw [show (φ n).base + lo * ie.size + i * ie.size + j = (φ n).base + (lo * ie.size + i * ie.size) + j by omega]; exact u1, u2, u3⟩
        have hel : ∀ (i : Nat) x, (l.drop lo)[i]? = some x → x.cells.length = ie.size := by
          intro i x hx; rw [List.getElem?_drop] at hx; exact a4 _ x hx
        have hBs : (φ n).base + lo * ie.size + cap * ie.size ≤ arr.size := by rw [b3, Nat.add_mul] at a2; omega
        have hres : ∀ (w1 : World) (S : Nat → Nat → Prop), (l.drop lo ++ xs).length ≤ cap →
            Rep (upd φ nx ⟨(φ n).blk, (φ n).base + lo * ie.size, cap, (l.drop lo ++ xs).length, ie.size, false⟩) (nx + 1) w1 S (.ref nx 0 none) (.slice (some A) (l.drop lo ++ xs).length cap) := by
          intro w1 S hle
          have := Rep.ref (φ := upd φ nx ⟨(φ n).blk, (φ n).base + lo * ie.size, cap, (l.drop lo ++ xs).length, ie.size, false⟩) (nx := nx + 1) (w := w1) (S := S) (n := nx) (lo := 0) (hi := none) (cap := cap) (A := A)
            (Nat.lt_succ_self _) (by rw [upd_same]) (Nat.zero_le _) (by simp) (by rw [upd_same]; simp) (by rw [upd_same]; exact hle) (fun hc => by rw [upd_same, b5 hc, e2]; simp)
          simpa [upd_same] using this
        by_cases hroom : l.length - lo + xs.length ≤ cap
        · have hlaid := hs.laid k2 hnil a1 hBs hmul.symm hdl hel hold hn hroom
          have hlen : (l.drop lo ++ xs).length = l.length - lo + xs.length := by rw [List.length_append, hdl]
          by_cases hx : xs = []
          · have h0 : news = [] := List.eq_nil_of_length_eq_zero (by rw [hn.length, hx]; simp)
            have hself : w.setRow (φ n).blk (splice arr.toList ((φ n).base + lo * ie.size + (l.length - lo) * ie.size) news).toArray = w := by
              have : splice arr.toList ((φ n).base + lo * ie.size + (l.length - lo) * ie.size) news = arr.toList := by rw [h0]; simp [splice]
              rw [this]; exact setRow_self w _ arr ty (0, 0) a1
            rw [hself] at hlaid
            have hrun := run_append_none (ty := o.type) ht hu h3 hz (A := some A) (sLen := l.length - lo) (sCap := cap) (by rw [hx] at hn; exact hn) (by omega)
            have hr2 := hres w (SS c.So (upd φ nx ⟨(φ n).blk, (φ n).base + lo * ie.size, cap, (l.drop lo ++ xs).length, ie.size, false⟩) ((nx, .buf wr ie.size (l.drop lo ++ xs)) :: drop H n)) (by rw [hlen]; exact hroom)
            have hl0 : (l.drop lo ++ xs).length = l.length - lo := by rw [hlen, hx]; rfl
            rw [hl0] at hr2
            rw [hl0] at hlaid
            exact ⟨_, _, _, _, _, w, exec_append ho hv rfl hrun, k4, hlaid, hr2⟩
          · have hlx : 0 < xs.length := List.length_pos_iff.2 hx
            have hA := b5 (by omega)
            rw [e2] at hA
            have hrun := run_append_in (ty := o.type) ht hu h3 hz hn hroom a1 (off := (φ n).base + lo * ie.size) (by
              have := Nat.mul_le_mul_right ie.size hroom
              omega)
            rw [← hA] at hrun
            have hr2 := hres (w.setRow (φ n).blk (splice arr.toList ((φ n).base + lo * ie.size + (l.length - lo) * ie.size) news).toArray)
              (SS c.So (upd φ nx ⟨(φ n).blk, (φ n).base + lo * ie.size, cap, (l.drop lo ++ xs).length, ie.size, false⟩) ((nx, .buf wr ie.size (l.drop lo ++ xs)) :: drop H n)) (by rw [hlen]; exact hroom)
            rw [hlen] at hr2 hlaid
            exact ⟨_, _, _, _, _, _, exec_append ho hv rfl hrun, k4, hlaid, hr2⟩
        · have hx : xs ≠ [] := fun e => hroom (by rw [e]; simp; omega)
          obtain ⟨olds, ho1⟩ := hH.news (P := P) hs
          have hfc := ho1.cells w.drew (fun _ _ => rfl)
          rw [hv, hdl] at hfc
          obtain ⟨φ', r, w', g1, g2, g3, g4⟩ := append_grow (ty := o.type) (l := l.drop lo) ht hs hu h3 hz (A := some A) (sCap := cap) hn (by rw [hdl]; omega)
            (Nat.le_trans (Nat.mul_le_mul_right _ (by rw [hdl]; omega)) k3) hb0 ⟨olds, by rw [hdl]; exact hfc, ho1.length, ho1.rep⟩ ho1.elem
          rw [hdl] at g1
          have hst : StΦ c (nx + 1) env ((nx, .buf wr ie.size (l.drop lo ++ xs)) :: drop H n) φ' tmps w' := by
            cases wr with
            | true => exact g2.let_go' (n := n) (by omega)
            | false =>
              have := (g2.let_go' (n := n) (by omega)).freeze (look_cons_same _ _ _)
              refine this.sub fun m ob hm => ?_
              by_cases em : nx = m
              · subst em; rw [look_cons_same] at hm; rw [look_hput_same]; exact hm
              · rw [look_cons_ne _ _ em] at hm; rw [look_hput_ne _ _ em, look_cons_ne _ _ em]; exact hm
          exact ⟨_, _, _, φ', r, w', exec_append ho hv rfl g1, k4, hst, g3 _⟩
    · have hv := (ev_rep hs k1).v_inv
      by_cases hx : xs = []
      · subst hx
        have hrun := run_append_none (ty := o.type) ht hu h3 hz (A := none) (sLen := 0) (sCap := 0) hn (Nat.le_refl 0)
        exact ⟨_, _, _, upd φ nx ⟨0, 0, 0, 0, ie.size, true⟩, _, w, exec_append ho hv rfl hrun, k4, hs.nilbuf true ie.size, .refnil (Nat.lt_succ_self _) (by rw [upd_same]) (by rw [upd_same]) rfl⟩
      · have hlx : 0 < xs.length := List.length_pos_iff.2 hx
        obtain ⟨φ', r, w', g1, g2, g3, g4⟩ := append_grow (ty := o.type) (l := []) ht hs hu h3 hz (A := none) (sCap := 0) hn (by simpa using hlx) (by simpa using k3) hb0 ⟨[], by simp [Builtin.firstCells], by simp, fun i y j d hy => by simp at hy⟩ (fun i y hy => by simp at hy)
        exact ⟨_, _, _, φ', r, w', exec_append ho hv rfl g1, k4, by simpa using g2, g3 _⟩
    · have hlx : 0 < xs.length := List.length_pos_iff.2 k5
      have hH : Holds env H s ie.size l := .inl ⟨true, k1⟩
      have hr := ev_rep hs k1
      obtain ⟨olds, ho1⟩ := hH.news (P := P) hs
      obtain ⟨a, cap, q1, q2, q3, q4, q5⟩ := hH.lies hs
      have hcap : cap = l.length := by
        rw [q1] at hr
        cases hr with | f hr => cases hr with | slnil => rfl | slemp => rfl | sl _ _ _ _ _ _ _ _ h2 => exact h2 rfl
      subst hcap
      have hfc := ho1.cells w.drew (fun _ _ => rfl)
      rw [q1] at hfc
      obtain ⟨φ', r, w', g1, g2, g3, g4⟩ := append_grow (ty := o.type) ht hs hu h3 hz (A := a) (sCap := l.length) hn (by omega) k3 hb0 ⟨olds, hfc, ho1.length, ho1.rep⟩ ho1.elem
      exact ⟨_, _, _, φ', r, w', exec_append ho q1 rfl g1, k4, g2, g3 _⟩
    · subst k5
      have hr := ev_rep hs k1
      obtain ⟨a, cap, q1, q2, q3, q4, q5⟩ := Holds.lies hs (x := s) (sz := ie.size) (l := l) (.inl ⟨true, k1⟩)
      have hrun := run_append_none (ty := o.type) ht hu h3 hz (A := a) (sLen := l.length) (sCap := cap) hn q2
      rw [q1] at hr
      exact ⟨_, _, _, φ, _, w, exec_append ho q1 rfl hrun, k4, hs, hr⟩

/-! ### copy -/
def stepCopy (tab : Tab) (env : Env) (H : Heap) (nx : Nat) (K : PV → Nat → Heap → Prop) (t u : Nat) (s x : Operand) : Prop :=
  ∃ i e ie xs n lo l, tab t = some i ∧ i.kd = .slice e ∧ tab e = some ie ∧ Src tab env H u x ie.size xs ∧ ev env s = some (.ref n lo none) ∧ look H n = some (.buf true ie.size l) ∧ lo + xs.length ≤ l.length ∧
    K (.f (.v (.int .i64 ((xs.length : Nat) : Int)))) nx ((n, .buf true ie.size (l.take lo ++ xs ++ l.drop (lo + xs.length))) :: drop H n)

theorem exec_copy {t u : Nat} {s x : Operand} {tmps : Array Value} {w w' : World} {r v vx : Value} (ho : o.op = .call { callee := .builtin .copy, args := #[s, x], argTypes := #[t, u] })
    (hv : (act tmps).eval s = v) (hx : (act tmps).eval x = vx) (hrun : (Builtin.copy_ #[t, u] o.type #[v, vx]).run P w = .ok r w') : (execOp (act tmps).eval o).run P w = .ok (.value r) w' := by
  simp only [execOp, ho, resolve, invoke, builtin]
  have e1 : #[s, x].map (act tmps).eval = #[v, vx] := by simp [hv, hx]
  simp only [Sem.run_bind, Sem.run_pure, Result.andThen_ok, e1, hrun]

theorem run_copy {t u ty e : Nat} {ie : TI} (ht : TabOk P tab) (hu : P.underlying t = some (.slice e)) (he : tab e = some ie) {A : Option Addr} {dLen dCap : Nat} {vx : Value} {xs : List FV} {news : List Value} {w w' : World} {S : Nat → Nat → Prop}
    (hn : News P w S ie.size vx xs news) (hle : xs.length ≤ dLen) (hst : match A with | some a => (storeCells a news).run P w = .ok () w' | none => w' = w) :
    (Builtin.copy_ #[t, u] ty #[.slice A dLen dCap, vx]).run P w = .ok (.int .i64 ((xs.length : Nat) : Int)) w' := by
  have hmin : Nat.min xs.length dLen = xs.length := Nat.min_eq_left hle
  cases A with
  | none =>
    simp only at hst
    subst hst
    simp [Builtin.copy_, run_underlying hu, hn.len, run_size ht he, hmin, hn.cells w' (fun _ _ => rfl), goInt]
  | some a =>
    simp only at hst
    simp [Builtin.copy_, run_underlying hu, hn.len, run_size ht he, hmin, hn.cells w (fun _ _ => rfl), goInt, hst]

theorem does_copy (ht : TabOk P tab) {t u : Nat} {s x : Operand} (ho : o.op = .call { callee := .builtin .copy, args := #[s, x], argTypes := #[t, u] }) (h : stepCopy tab env H nx K t u s x) : Does P o c nx env H K :=
  Does.value fun φ tmps w hs => by
    obtain ⟨i, e, ie, xs, n, lo, l, h1, h2, h3, h5, k1, k2, hle, k4⟩ := h
    have hu := under_slice ht h1 h2
    obtain ⟨hz, news, hn⟩ := h5.news ht hs
    have hr := ev_rep hs k1
    obtain ⟨hnx, e1, e2, e3⟩ := hs.ok.obj n _ k2
    generalize hv : (act tmps).eval s = v at hr
    have same : xs = [] → StΦ c nx env ((n, .buf true ie.size (l.take lo ++ xs ++ l.drop (lo + xs.length))) :: drop H n) φ tmps w := by
      intro hx
      subst hx
      refine hs.sub fun m ob hm => ?_
      by_cases em : n = m
      · subst em; rw [look_cons_same] at hm; rw [k2]; simpa using hm
      · rw [look_cons_ne _ _ em, look_drop_ne _ em] at hm; exact hm
    cases hr with
    | @refnil _ _ hlt hnil hlen hh0 =>
      have hl0 : l = [] := by rw [e1] at hlen; exact List.eq_nil_of_length_eq_zero hlen
      have hx : xs = [] := List.eq_nil_of_length_eq_zero (by rw [hl0, List.length_nil] at hle; omega)
      have hrun := run_copy (u := u) (ty := o.type) (A := none) (dLen := 0) (dCap := 0) (w' := w) ht hu h3 hn (by rw [hx]; simp) rfl
      exact ⟨_, _, _, φ, _, w, exec_copy ho hv rfl hrun, k4, same hx, .f (.v _)⟩
    | @ref _ _ _ cap A hlt hnil b1 b2 b3 b4 b5 =>
      rcases e3 with ⟨e3, _⟩ | ⟨_, arr, ty, a1, a2, a3, a4, a5⟩
      · rw [hnil] at e3; cases e3
      simp only [Option.getD_none] at b1 b2 hv
      rw [e1] at b1 b4 hv
      by_cases hx : xs = []
      · have h0 : news = [] := List.eq_nil_of_length_eq_zero (by rw [hn.length, hx]; simp)
        have hrun := run_copy (u := u) (ty := o.type) (A := some A) (dLen := l.length - lo) (dCap := cap) (w' := w) ht hu h3 hn (by omega) (by simp only [h0, storeCells, Sem.run_pure])
        exact ⟨_, _, _, φ, _, w, exec_copy ho hv rfl hrun, k4, same hx, .f (.v _)⟩
      · have hlx : 0 < xs.length := List.length_pos_iff.2 hx
        have hA := b5 (by omega)
        rw [e2] at hA
        have hmul : lo * ie.size + xs.length * ie.size ≤ l.length * ie.size := by rw [← Nat.add_mul]; exact Nat.mul_le_mul_right _ hle
        have hcap := Nat.mul_le_mul_right ie.size a3
        have hfit : (φ n).base + lo * ie.size + news.length ≤ arr.toList.length := by rw [hn.length]; simp; omega
        have hst := run_storeCells_at P (φ n).blk ((φ n).base + lo * ie.size) ty news 0 arr w a1 (by simp at hfit; omega) hn.one
        simp only [Nat.add_zero] at hst
        have hrun := run_copy (u := u) (ty := o.type) (A := some A) (dLen := l.length - lo) (dCap := cap) ht hu h3 hn (by omega) (by rw [hA]; exact hst)
        refine ⟨_, _, _, φ, _, _, exec_copy ho hv rfl hrun, k4, ?_, .f (.v _)⟩
        have hw := hs.write (n := n) (m := n) (nx' := nx) (o' := .buf true ie.size (l.take lo ++ xs ++ l.drop (lo + xs.length))) (p := φ n)
          (w' := w.setRow (φ n).blk (arr.toList.take ((φ n).base + lo * ie.size) ++ news ++ arr.toList.drop ((φ n).base + lo * ie.size + news.length)).toArray)
          k2 hnil (.inl ⟨rfl, rfl, rfl⟩) hnil rfl (Nat.le_refl _) rfl rfl rfl (by simp) (fun b hb => setRow_other w _ b _ hb) (fun q hq => by simp [lim] at hq) (fun hm => by
            rw [upd_self] at hm ⊢
            have hlen : (l.take lo ++ xs ++ l.drop (lo + xs.length)).length = l.length := by simp; omega
            have hel : ∀ (q : Nat) d, (l.take lo ++ xs ++ l.drop (lo + xs.length))[q]? = some d → d.cells.length = ie.size := by
              refine append_get (append_get (fun q d hd => ?_) hn.elem) (fun q d hd => ?_)
              · rw [List.getElem?_take] at hd
                split at hd
                · exact a4 q d hd
                · cases hd
              · rw [List.getElem?_drop] at hd; exact a4 _ d hd
            refine ⟨by rw [hlen]; exact e1, e2, .inr ⟨hnil, _, ty, setRow_heap w _ arr _ ty _ a1, ?_, by rw [hlen]; exact a3, hel, ?_⟩⟩
            · simp only [List.size_toArray]
              have : (arr.toList.take ((φ n).base + lo * ie.size) ++ news ++ arr.toList.drop ((φ n).base + lo * ie.size + news.length)).length = arr.toList.length := splice_length hfit
              rw [this]; simpa using a2
            · intro q d r cc hd hr
              have hsp : (arr.toList.take ((φ n).base + lo * ie.size) ++ news ++ arr.toList.drop ((φ n).base + lo * ie.size + news.length)) = splice arr.toList ((φ n).base + lo * ie.size) news := rfl
              have hrl : r < ie.size := by rw [← hel q d hd]; exact (List.getElem?_eq_some_iff.1 hr).1
              rw [hsp, List.getElem?_toArray, splice_get hfit]
              by_cases q1 : q < lo
              · rw [List.append_assoc, List.getElem?_append_left (by simp; omega), List.getElem?_take_of_lt q1] at hd
                have := Nat.mul_le_mul_right ie.size (show q + 1 ≤ lo by omega)
                rw [Nat.add_mul] at this
                rw [if_pos (by omega)]
                obtain ⟨u, u1, u2, u3⟩ := a5 q d r cc hd hr
                exact ⟨u, by simpa using u1, u2, u3.step hm⟩
              · by_cases q2 : q < lo + xs.length
                · rw [List.append_assoc, List.getElem?_append_right (by simp; omega), List.getElem?_append_left (by simp; omega)] at hd
                  rw [show q - (l.take lo).length = q - lo by simp; omega] at hd
                  obtain ⟨u, u1, u2, u3⟩ := hn.rep _ d r cc hd hr
                  have hlt := (List.getElem?_eq_some_iff.1 u1).1
                  have e : q * ie.size = lo * ie.size + (q - lo) * ie.size := by rw [← Nat.add_mul]; congr 1; omega
                  refine ⟨u, ?_, u2, u3.step hm⟩
                  rw [if_neg (by omega), if_pos (by omega)]
                  rw [show (φ n).base + q * ie.size + r - ((φ n).base + lo * ie.size) = (q - lo) * ie.size + r by omega]
                  exact u1
                · rw [List.getElem?_append_right (by simp; omega), List.getElem?_drop] at hd
                  rw [show lo + xs.length + (q - (l.take lo ++ xs).length) = q by simp; omega] at hd
                  have := Nat.mul_le_mul_right ie.size (show lo + xs.length ≤ q by omega)
                  rw [Nat.add_mul] at this
                  rw [if_neg (by omega), if_neg (by rw [hn.length]; omega)]
                  obtain ⟨u, u1, u2, u3⟩ := a5 q d r cc hd hr
                  exact ⟨u, by simpa using u1, u2, u3.step hm⟩)
        rw [upd_self] at hw
        exact hw
end

/-! ### maps from ints to ints -/
section
variable {P : Program} {tab : Tab} {c : Ctx} {nx : Nat} {env : Env} {H : Heap} {K : PV → Nat → Heap → Prop} {o : Oper}
def mpGet : List (Int × Int) → Int → Option Int
  | [], _ => none
  | e :: t, a => if a = e.1 then some e.2 else mpGet t a
theorem mp_find : ∀ (es : List (Int × Int)) (l : List MapEntry) (i : Nat) (a : Int), l.map (fun m => (m.key, m.val)) = es.map mpE →
    ∃ x, Instr.findNow (.int .i64) (.int .i64 a) l i = some x ∧ x.map (·.2) = (mpGet es a).map (Value.int .i64)
  | [], [], i, a, _ => ⟨none, rfl, rfl⟩
  | [], m :: l, i, a, h => by simp at h
  | e :: es, [], i, a, h => by simp at h
  | e :: es, m :: l, i, a, h => by
    simp only [List.map_cons, List.cons.injEq, mpE, Prod.mk.injEq] at h
    obtain ⟨⟨h1, h2⟩, h3⟩ := h
    by_cases he : a = e.1
    · refine ⟨some (i, m.val), ?_, ?_⟩
      · unfold Instr.findNow; rw [h1]; simp [Instr.sameNow, he]
      · simp [mpGet, he, h2]
    · obtain ⟨x, k1, k2⟩ := mp_find es l (i + 1) a h3
      refine ⟨x, ?_, ?_⟩
      · have hb : (a == e.1) = false := by simpa using he
        unfold Instr.findNow; rw [h1]; simp [Instr.sameNow, hb, k1]
      · rw [k2]; simp [mpGet, he]

def stepMakeMap (H : Heap) (nx : Nat) (K : PV → Nat → Heap → Prop) (x : Option Operand) : Prop :=
  x = none ∧ ∀ r, K (.f (.v (.map (some r)))) (nx + 1) ((nx, .mp r []) :: H)

theorem does_makeMap {t : Nat} {x : Option Operand} (ho : o.op = .makeMap t x) (h : stepMakeMap H nx K x) : Does P o c nx env H K :=
  Does.value fun φ tmps w hs => by
    obtain ⟨rfl, h⟩ := h
    have hw : StΦ c (nx + 1) env ((nx, .mp w.heap.size []) :: H) (upd φ nx ⟨w.heap.size, 0, 0, 0, 0, false⟩) tmps (w.alloc (.map #[] 0)) := by
      refine hs.push rfl rfl rfl rfl rfl fun hm => ?_
      simp only [SatO, upd_same]
      exact ⟨by first | trivial | rfl, by first | trivial | rfl, #[], 0, heap_alloc_new w _, rfl⟩
    refine ⟨_, _, _, _, .map (some w.heap.size), _, ?_, h w.heap.size, hw, .f (.v _)⟩
    simp [execOp, ho, Instr.makeMap]

def stepLookup (P : Program) (env : Env) (H : Heap) (nx : Nat) (K : PV → Nat → Heap → Prop) (t : Nat) (x y : Operand) (ok : Bool) : Prop :=
  ok = false ∧ ∃ kt et r n es a, P.underlying t = some (.map kt et) ∧ P.underlying kt = some (.int .i64) ∧ (P.info? et).bind (·.zero) = some (.int .i64 0) ∧ ev env x = some (.f (.v (.map (some r)))) ∧ look H n = some (.mp r es) ∧
    ev env y = some (.f (.v (.int .i64 a))) ∧ K (.f (.v (.int .i64 ((mpGet es a).getD 0)))) nx H

theorem zero_of {et : Nat} {z : Value} (h : (P.info? et).bind (·.zero) = some z) (w : World) : (zeroValue et).run P w = .ok z w := by
  cases hq : P.info? et with
  | none => rw [hq] at h; cases h
  | some ti =>
    rw [hq] at h
    simp only [Option.bind_some] at h
    simp [zeroValue, typeInfo, hq, h]

theorem rep_plain {φ : Nat → Phys} {S : Nat → Nat → Prop} {w : World} {x v : Value} (h : Rep φ nx w S (.f (.v x)) v) : v = x := by
  cases h with
  | f h => cases h; rfl

theorem does_lookup {t : Nat} {x y : Operand} {ok : Bool} (ho : o.op = .lookup t x y ok) (h : stepLookup P env H nx K t x y ok) : Does P o c nx env H K :=
  Does.pure fun φ tmps w hs => by
    obtain ⟨rfl, kt, et, r, n, es, a, h1, h2, h3, h4, h5, h6, h7⟩ := h
    have e1 := rep_plain (ev_rep hs h4)
    have e2 := rep_plain (ev_rep hs h6)
    obtain ⟨_, _, ents, clock, g1, g2⟩ := (hs.ok.obj n _ h5).2
    obtain ⟨z, k1, k2⟩ := mp_find es ents.toList 0 a g2
    refine ⟨_, .int .i64 ((mpGet es a).getD 0), ?_, h7, .f (.v _)⟩
    have hrun : (Instr.lookup t (.map (some r)) (.int .i64 a) false).run P w = .ok (.int .i64 ((mpGet es a).getD 0)) w := by
      have hck := fun e n => MapKept.run_checkKey (P := P) (w := w) h2 (k := .int .i64 a) rfl e n
      cases z with
      | none =>
        have hn : mpGet es a = none := by cases hg : mpGet es a with
          | none => rfl
          | some v => rw [hg] at k2; cases k2
        simp [Instr.lookup, run_underlying h1, MapKept.run_getObj_map g1, hck _ 9999, MapKept.run_findKey h2 k1, zero_of h3, Result.andThen, hn]
      | some p =>
        have hn : ∃ v, mpGet es a = some v ∧ p.2 = .int .i64 v := by cases hg : mpGet es a with
          | none => rw [hg] at k2; cases k2
          | some v => rw [hg] at k2; simp at k2; exact ⟨v, rfl, k2⟩
        obtain ⟨v, hn, hp⟩ := hn
        obtain ⟨p1, p2⟩ := p
        simp only at hp
        subst hp
        simp [Instr.lookup, run_underlying h1, MapKept.run_getObj_map g1, hck _ 9999, MapKept.run_findKey h2 k1, Result.andThen, hn]
    simp [execOp, ho, e1, e2, hrun]

def stepMapUpdate (P : Program) (env : Env) (H : Heap) (nx : Nat) (K : PV → Nat → Heap → Prop) (t : Nat) (x y z : Operand) : Prop :=
  ∃ kt et r n es a b, P.underlying t = some (.map kt et) ∧ P.underlying kt = some (.int .i64) ∧ ev env x = some (.f (.v (.map (some r)))) ∧ look H n = some (.mp r es) ∧ ev env y = some (.f (.v (.int .i64 a))) ∧ ev env z = some (.f (.v (.int .i64 b))) ∧
    mpGet es a = none ∧ K (.f (.v undef)) nx (hput H n (.mp r (es ++ [(a, b)])))

theorem does_mapUpdate {t : Nat} {x y z : Operand} (ho : o.op = .mapUpdate t x y z) (h : stepMapUpdate P env H nx K t x y z) : Does P o c nx env H K :=
  Does.skip fun φ tmps w hs => by
    obtain ⟨kt, et, r, n, es, a, b, h1, h2, h4, h5, h6, h7, hn, h8⟩ := h
    have e1 := rep_plain (ev_rep hs h4)
    have e2 := rep_plain (ev_rep hs h6)
    have e3 := rep_plain (ev_rep hs h7)
    obtain ⟨hnil, hblk, ents, clock, g1, g2⟩ := (hs.ok.obj n _ h5).2
    obtain ⟨q, k1, k2⟩ := mp_find es ents.toList 0 a g2
    have hq : q = none := by cases q with
      | none => rfl
      | some p => rw [hn] at k2; cases k2
    subst hq
    have hck := fun e n => MapKept.run_checkKey (P := P) (w := w) h2 (k := .int .i64 a) rfl e n
    have hrun : (Instr.mapUpdate t (.map (some r)) (.int .i64 a) (.int .i64 b)).run P w = .ok () { w with heap := w.heap.setIfInBounds r (.map (ents.push ⟨.int .i64 a, .int .i64 b, clock⟩) (clock + 1)) } := by
      simp [Instr.mapUpdate, run_underlying h1, MapKept.run_getObj_map g1, hck _ 9999, MapKept.run_findKey h2 k1, MapKept.run_setObj_map _ g1, Result.andThen]
    obtain ⟨s1, s2⟩ := MapKept.heap_set (o' := .map (ents.push ⟨.int .i64 a, .int .i64 b, clock⟩) (clock + 1)) g1
    have hw := hs.write (n := n) (m := n) (nx' := nx) (o' := .mp r (es ++ [(a, b)])) (p := φ n) (w' := { w with heap := w.heap.setIfInBounds r (.map (ents.push ⟨.int .i64 a, .int .i64 b, clock⟩) (clock + 1)) })
      h5 hnil (.inl ⟨rfl, rfl, rfl⟩) hnil rfl (Nat.le_refl _) rfl rfl rfl (by simp) (fun k hk => s2 k (by rw [← hblk]; exact hk)) (fun q hq => by simp [lim] at hq) (fun hm => by
        rw [upd_self]
        exact ⟨hnil, hblk, _, _, s1, by simp [g2, mpE]⟩)
    rw [upd_self] at hw
    refine ⟨_, _, φ, _, ?_, h8, hw⟩
    simp [execOp, ho, e1, e2, e3, hrun]
end
end Go.Proofs.YtnajikpdnccilaaGreat.Pv
