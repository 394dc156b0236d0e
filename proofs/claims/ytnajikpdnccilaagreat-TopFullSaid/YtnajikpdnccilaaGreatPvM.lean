/- copy; bytes as a text, a text as bytes. -/
import Derived.Test.YtnajikpdnccilaaGreatPvL
import Derived.Laws.BytesString
set_option linter.unusedVariables false
set_option linter.unusedSimpArgs false
namespace Go.Proofs.YtnajikpdnccilaaGreat.Pv
open Go

section
variable {P : Program} {tab : Tab} {c : Ctx} {nx : Nat} {env : Env} {H H' : Heap} {K : PV → Nat → Heap → Prop} {o : Oper}

/-- Other blocks, that nobody names. -/
theorem StΦ.same {φ : Nat → Phys} {tmps : Array Value} {w w' : World} (h : StΦ c nx env H φ tmps w) (ho : w'.os = w.os) (ht : w'.tape = w.tape) (hu : w'.output = w.output) (hz : w.heap.size ≤ w'.heap.size)
    (hb : ∀ b, b < w.heap.size → w'.heap[b]? = w.heap[b]?) : StΦ c nx env H φ tmps w' := by
  have hext : Ext w w' (Own φ H) (Own φ H) := ⟨ho, ht, hu, hz, fun b hlt _ => hb b hlt, fun b off hlt _ => World.cell?_of_block (a := ⟨b, off, none⟩) (hb b hlt), fun _ _ _ h => h⟩
  refine h.next (fun _ _ => rfl) (Nat.le_refl _) ?_ hext
  refine ⟨fun n o' hk => ?_, h.ok.dis, h.ok.out⟩
  obtain ⟨k1, k2⟩ := h.ok.obj n o' hk
  exact ⟨k1, k2.step (fun _ _ => rfl) (Nat.le_refl _) hext.mono k1 fun hf => hb _ (k2.lt hf)⟩

def textOf (ns : List Int) : ByteArray := ns.foldl (fun r n => r.push (UInt8.ofNat n.toNat)) ByteArray.empty

def bytesF (ns : List Int) : List FV := ns.map fun n => .v (.int .u8 n)

def stepText (tab : Tab) (env : Env) (H : Heap) (nx : Nat) (K : PV → Nat → Heap → Prop) (s t : Nat) (x : Operand) : Prop :=
  ∃ is it, tab s = some is ∧ tab t = some it ∧
    ((∃ e ie ns, is.kd = .slice e ∧ tab e = some ie ∧ ie.kd = .int .u8 ∧ it.kd = .str ∧ Holds env H x 1 (bytesF ns) ∧ K (.f (.v (.string (textOf ns)))) nx H) ∨
     (∃ e ie a, is.kd = .str ∧ it.kd = .slice e ∧ tab e = some ie ∧ ie.kd = .int .u8 ∧ ev env x = some (.f (.v (.string a))) ∧ K (.f (.sl 1 false (charsOf a))) nx H) ∨
     (∃ e ie n lo hi wr l, s = t ∧ is.kd = .slice e ∧ tab e = some ie ∧ ie.kd = .int .u8 ∧ ev env x = some (.ref n lo hi) ∧ look H n = some (.buf wr 1 l) ∧ view lo hi l ≠ [] ∧ K (.f (.sl 1 false (view lo hi l))) nx (drop H n)))

theorem cell_freeze (w : World) (a : Addr) (n b off : Nat) : (w.freeze a n).cell? ⟨b, off, none⟩ = w.cell? ⟨b, off, none⟩ := by
  unfold World.freeze
  split
  · rfl
  · simp only [World.cell?, Array.getElem?_modify]
    by_cases hb : a.block = b
    · subst hb
      simp only [if_true]
      cases hq : w.heap[a.block]? with
      | none => rfl
      | some o => cases o <;> rfl
    · simp only [if_neg hb]

/-- A buffer is given up, and marked as a text's. -/
theorem StΦ.marked {φ : Nat → Phys} {tmps : Array Value} {w : World} (hs : StΦ c nx env H φ tmps w) {n lo : Nat} {hi : Option Nat} {wr : Bool} {l : List FV} {v : Value} (hl : look H n = some (.buf wr 1 l))
    (hr : Rep φ nx w (SS c.So φ H) (.ref n lo hi) v) (hne : view lo hi l ≠ []) : ∃ A len cap w', v = .slice (some A) len cap ∧ (markStringish A).run P w = .ok () w' ∧ StΦ c nx env (drop H n) φ tmps w' ∧ RepF w' (SS c.So φ (drop H n)) (.sl 1 false (view lo hi l)) v := by
  obtain ⟨h2, hm, hF0⟩ := frz_ok hs (pv := .ref n lo hi) (y := .sl 1 false (view lo hi l)) (H' := hput H n (.buf false 1 l)) (by simp [frz, frz1, hl])
  have hl2 : look (hput H n (.buf false 1 l)) n = some (.buf false 1 l) := look_cons_same _ _ _
  have hF := hF0 v hr
  obtain ⟨o1, o2, o3⟩ := (hs.ok.obj n _ hl).2
  have hv : ∃ A len cap, v = .slice (some A) len cap ∧ A.block = (φ n).blk ∧ (φ n).nil = false := by
    cases hr with
    | refnil a b d e =>
      exfalso
      have : l = [] := List.length_eq_zero_iff.1 (o1.symm.trans d)
      subst this
      cases hi <;> simp [view] at hne
    | @ref _ _ _ cap A a1 a2 a3 a4 a5 a6 a7 =>
      have hvl : (view lo hi l).length = hi.getD l.length - lo := view_length (by rw [o1] at a4; exact a4)
      have hcap : cap ≠ 0 := by
        intro e
        subst e
        have : 0 < (view lo hi l).length := List.length_pos_iff.2 hne
        rw [o1] at a3 a4 a6
        omega
      exact ⟨A, _, cap, rfl, by rw [a7 hcap], a2⟩
  obtain ⟨A, len, cap, rfl, hA, hnil⟩ := hv
  have hmem : ∃ arr ty, w.heap[(φ n).blk]? = some (.cells arr ty (0, 0)) := by
    rcases o3 with ⟨q, _⟩ | ⟨_, arr, ty, q, _⟩
    · rw [hnil] at q; cases q
    · exact ⟨arr, ty, q⟩
  obtain ⟨arr, ty, hw⟩ := hmem
  let w' := w.freeze ⟨A.block, arr.size, none⟩ 1
  have hrun : (markStringish A).run P w = .ok () w' := by
    have hsh : w.shape? A.block = some (ty, arr.size) := by rw [hA]; simp [World.shape?, hw]
    simp only [markStringish, Sem.run_bind, run_shape, Result.andThen_ok, hsh, run_freeze, w']
  have hcell : ∀ b off, w'.cell? ⟨b, off, none⟩ = w.cell? ⟨b, off, none⟩ := fun b off => cell_freeze w _ _ b off
  have hblk : ∀ b, b ≠ (φ n).blk → w'.heap[b]? = w.heap[b]? := by
    intro b hb
    simp only [w', World.freeze]
    rw [if_neg (by decide)]
    simp only [Array.getElem?_modify]
    rw [if_neg (by rw [hA]; exact fun e => hb e.symm)]
  have hsz : w'.heap.size = w.heap.size := by simp [w', World.freeze]
  have hsub : ∀ b off, Own φ (drop H n) b off → Own φ (hput H n (.buf false 1 l)) b off := by
    rintro b off ⟨m, o', m1, m2⟩
    by_cases e : n = m
    · subst e; rw [look_drop_same] at m1; cases m1
    · rw [look_drop_ne _ e] at m1
      exact ⟨m, o', by unfold hput; rw [look_cons_ne _ _ e, look_drop_ne _ e]; exact m1, m2⟩
  have hext : Ext w w' (Own φ (hput H n (.buf false 1 l))) (Own φ (drop H n)) := by
    refine ⟨by simp only [w', World.freeze]; rw [if_neg (by decide)], by simp only [w', World.freeze]; rw [if_neg (by decide)], by simp only [w', World.freeze]; rw [if_neg (by decide)], by omega, fun b hb hO => hblk b fun e => ?_, fun b off _ _ => hcell b off, fun b off _ ho => hsub b off ho⟩
    exact hO (lim (φ n) (.buf false 1 l)) ⟨n, _, hl2, hnil, e.symm, Nat.le_refl _⟩
  have hmono : Mono w (SS c.So φ (hput H n (.buf false 1 l))) w' (SS c.So φ (drop H n)) := hext.mono
  refine ⟨A, len, cap, w', rfl, hrun, ?_, hF.step hmono⟩
  refine h2.next (fun _ _ => rfl) (Nat.le_refl _) ?_ hext
  have hlook : ∀ m o', look (drop H n) m = some o' → n ≠ m ∧ look (hput H n (.buf false 1 l)) m = some o' := by
    intro m o' hm
    by_cases e : n = m
    · subst e; rw [look_drop_same] at hm; cases hm
    · exact ⟨e, by unfold hput; rw [look_cons_ne _ _ e]; exact hm⟩
  refine ⟨fun m o' hm => ?_, fun m q o1' o2' hm hq => h2.ok.dis m q o1' o2' (hlook m _ hm).2 (hlook q _ hq).2, fun m o' hm => h2.ok.out m o' (hlook m _ hm).2⟩
  obtain ⟨e, hm2⟩ := hlook m o' hm
  obtain ⟨k1, k2⟩ := h2.ok.obj m o' hm2
  refine ⟨k1, k2.step (fun _ _ => rfl) (Nat.le_refl _) hmono k1 fun hf => hblk _ fun eq => ?_⟩
  exact h2.ok.dis m n o' _ hm2 hl2 (fun q => e q.symm) hf hnil eq

theorem does_text (ht : TabOk P tab) {s t : Nat} {x : Operand} (ho : o.op = .convert s t x) (h : stepText tab env H nx K s t x) : Does P o c nx env H K :=
  Does.value fun φ tmps w hs => by
    obtain ⟨is, it, h1, h2, h⟩ := h
    rcases h with ⟨e, ie, ns, g1, g2, g3, g4, g5, g6⟩ | ⟨e, ie, a, g1, g2, g3, g4, g5, g6⟩ | ⟨e, ie, n, lo, hi, wr, l, rfl, g1, g2, g3, g4, g5, g6, g7⟩
    · have hu := under_slice ht h1 g1
      have hd := under_str ht h2 g4
      have he : P.underlying e = some (.int .u8) := by have := (ht e ie g2).under; rw [g3] at this; exact this
      obtain ⟨A, cap, k1, k2, k3, k4, k5⟩ := g5.lies hs
      have hl : (bytesF ns).length = ns.length := by simp [bytesF]
      refine ⟨_, _, _, φ, _, w, ?_, g6, hs, .f (.v _)⟩
      simp only [execOp, ho, k1]
      rw [Sem.run_bind, run_convert_bytes_string w s t e A _ cap hu he hd]
      cases A with
      | none =>
        obtain ⟨e0, _⟩ := k3 rfl
        have : ns = [] := by simpa [bytesF] using e0
        subst this
        simp [Conv.bytesToString, textOf]
      | some p =>
        rw [run_bytesToString w p (bytesF ns).length cap ns ?_]
        · rfl
        · by_cases hn : bytesF ns = []
          · have : ns = [] := by simpa [bytesF] using hn
            subst this
            simp [bytesF, loadCells, loadCellsFrom]
          · obtain ⟨hsp, hc⟩ := k5 p rfl hn
            obtain ⟨pb, po, psp⟩ := p
            simp only at hsp hc
            subst hsp
            refine run_loads w pb po _ _ (by simp [hl]) fun j v hj => ?_
            simp only [List.getElem?_map, Option.map_eq_some_iff] at hj
            obtain ⟨n, n1, rfl⟩ := hj
            obtain ⟨u, u1, u2, u3⟩ := hc j (.v (.int .u8 n)) 0 (.v (.int .u8 n)) (by simp [bytesF, n1]) rfl
            cases u3
            simpa using u1
    · have hd := under_slice ht h2 g2
      have hu := under_str ht h1 g1
      have he : P.underlying e = some (.int .u8) := by have := (ht e ie g3).under; rw [g4] at this; exact this
      let n0 := grownCap w a.size 0 e
      let arr : Array Value := (a.data.map fun b => Value.int .u8 b.toNat) ++ Array.replicate (n0 - a.size) (.int .u8 0)
      let w1 : World := w.drew.alloc (.cells arr e)
      have hb : ∀ b, b < w.heap.size → (w1.freeze ⟨w.heap.size, arr.size, none⟩ 1).heap[b]? = w.heap[b]? := by
        intro b hlt
        simp only [World.freeze, w1]
        rw [if_neg (by decide)]
        simp only [Array.getElem?_modify]
        rw [if_neg (by omega)]
        exact heap_alloc_old w.drew _ hlt
      have hrun : (Conv.stringToBytes e a).run P w = .ok (.slice (some ⟨w.heap.size, 0, none⟩) a.size n0) (w1.freeze ⟨w.heap.size, arr.size, none⟩ 1) := by
        have hsh : w1.shape? w.heap.size = some (e, arr.size) := by
          have : w1.heap[w.heap.size]? = some (.cells arr e (0, 0)) := heap_alloc_new w.drew _
          simp [World.shape?, this]
        simp only [Conv.stringToBytes, markStringish, newRow, Sem.run_bind, run_choose_drew, Question.forced, Bool.false_eq_true, if_false, Result.andThen_ok, run_newObj, Sem.run_pure, run_shape]
        have e1 : ({ w.drew with heap := w.drew.heap.push (.cells ((a.data.map fun b => Value.int .u8 b.toNat) ++ Array.replicate ((Question.appendCap a.size 0 e).cut (w.tape w.drawn (.appendCap a.size 0 e)) - a.size) (.int .u8 0)) e) } : World) = w1 := rfl
        rw [e1]
        have e2 : w.drew.heap.size = w.heap.size := rfl
        rw [e2, hsh]
        simp only [Sem.run_bind, run_freeze, Result.andThen_ok]
        rfl
      have hs' : StΦ c nx env H φ tmps (w1.freeze ⟨w.heap.size, arr.size, none⟩ 1) := hs.same rfl rfl rfl (by simp [World.freeze, w1]) hb
      refine ⟨_, _, _, φ, .slice (some ⟨w.heap.size, 0, none⟩) a.size n0, _, ?_, g6, hs', ?_⟩
      · simp only [execOp, ho, (ev_rep hs g5).v_inv, convert]
        simp only [Sem.run_bind, run_underlying hu, run_underlying hd, run_underlying he, Result.andThen_ok, hrun, Sem.run_pure]
      · have hl : (charsOf a).length = a.size := by simp [charsOf]
        rw [← hl]
        have hcell : ∀ (j : Nat), j < a.size → (w1.freeze ⟨w.heap.size, arr.size, none⟩ 1).cell? ⟨w.heap.size, j, none⟩ = (a.data.map fun b => Value.int .u8 b.toNat)[j]? := by
          intro j hj
          simp only [World.cell?, World.freeze]
          rw [if_neg (by decide)]
          have : w1.heap[w.heap.size]? = some (.cells arr e (0, 0)) := heap_alloc_new w.drew _
          simp only [Array.getElem?_modify, if_true, this, Option.map_some]
          simp only [Option.isSome_none, Bool.false_eq_true, if_false, arr]
          rw [Array.getElem?_append, if_pos (by simpa using hj)]
        have hnot : ∀ j, ¬ SS c.So φ H w.heap.size j := by
          rintro j (hso | ⟨n, o', m1, m2, m3, m4⟩)
          · have := c.low _ _ hso; have := hs.ext.size; omega
          · have := (hs.ok.obj n o' m1).2.lt m2; omega
        refine .f (.sl 1 false _ _ 0 n0 (fun i j => ((a.data.map fun b => Value.int .u8 b.toNat)[i]?).getD undef) (by rw [hl]; exact grownCap_ge w _ _ _) (fun e => by cases e) (fun i x hx => ?_) (fun i x j d hx hd => ?_) (fun i x j d hx hd => ?_))
        · simp only [charsOf, List.getElem?_map, Option.map_eq_some_iff] at hx
          obtain ⟨b, _, rfl⟩ := hx; rfl
        all_goals
          simp only [charsOf, List.getElem?_map, Option.map_eq_some_iff, Array.getElem?_toList] at hx
          obtain ⟨b, hb1, rfl⟩ := hx
          have hj : j = 0 ∧ d = .v (.int .u8 b.toNat) := by
            cases j with
            | zero => simp [FV.cells] at hd; exact ⟨rfl, hd.symm⟩
            | succ j => simp [FV.cells] at hd
          obtain ⟨rfl, rfl⟩ := hj
          have hi : i < a.size := (Array.getElem?_eq_some_iff.1 hb1).1
          have hval : (a.data.map fun b => Value.int .u8 b.toNat)[i]? = some (.int .u8 b.toNat) := by simp [hb1]
          simp only [hval, Option.getD_some]
        · refine ⟨?_, hnot _, rfl⟩
          have := hcell i hi
          rw [hval] at this
          simpa using this
        · exact .v _
    · have hu := under_slice ht h1 g1
      have he : P.underlying e = some (.int .u8) := by have := (ht e ie g2).under; rw [g3] at this; exact this
      obtain ⟨A, len, cap, w', k1, k2, k3, k4⟩ := hs.marked (P := P) g5 (ev_rep hs g4) g6
      refine ⟨_, _, _, φ, _, w', ?_, g7, k3, .f k4⟩
      simp only [execOp, ho, k1, convert]
      simp only [Sem.run_bind, run_underlying hu, run_underlying he, Result.andThen_ok, beq_self_eq_true, k2, Sem.run_pure]

end
end Go.Proofs.YtnajikpdnccilaaGreat.Pv
