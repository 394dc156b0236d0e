/- Calls, one operation of any kind, rows of operations. -/
import Derived.Test.YtnajikpdnccilaaGreatPvP
set_option linter.unusedVariables false
set_option linter.unusedSimpArgs false
namespace Go.Proofs.YtnajikpdnccilaaGreat.Pv
open Go

section
variable {P : Program} {tab : Tab} {c : Ctx} {nx : Nat} {env : Env} {H H' : Heap} {K : PV → Nat → Heap → Prop} {o : Oper}

/-- What may be handed over: a value told without names, or one whose names are handed over, too. -/
def pass1 (H : Heap) (p : PV) : PV × Heap := match frz H p with | some (y, H') => (.f y, H') | none => (p, H)
def passes (ns : List Nat) (H : Heap) : List PV → List PV × Heap
  | [] => ([], H)
  | x :: t => if has (fun n => ns.contains n) x then (x :: (passes ns H t).1, (passes ns H t).2) else ((pass1 H x).1 :: (passes ns (pass1 H x).2 t).1, (passes ns (pass1 H x).2 t).2)

def allArgs (ps caps : List PV) : List PV := ps ++ caps

theorem pass1_ok {φ : Nat → Phys} {tmps : Array Value} {w : World} (hs : StΦ c nx env H φ tmps w) (p : PV) :
    StΦ c nx env (pass1 H p).2 φ tmps w ∧ Less c φ w H (pass1 H p).2 ∧ ∀ v, Rep φ nx w (SS c.So φ H) p v → Rep φ nx w (SS c.So φ (pass1 H p).2) (pass1 H p).1 v := by
  unfold pass1
  split
  · rename_i y H' h
    obtain ⟨a, b, d⟩ := frz_ok hs h
    exact ⟨a, b, fun v hr => .f (d v hr)⟩
  · exact ⟨hs, Mono.refl _ _, fun v hr => hr⟩

theorem passes_ok {φ : Nat → Phys} {tmps : Array Value} {w : World} {ns : List Nat} : ∀ {ps : List PV} {H : Heap}, StΦ c nx env H φ tmps w →
    StΦ c nx env (passes ns H ps).2 φ tmps w ∧ Less c φ w H (passes ns H ps).2 ∧ (passes ns H ps).1.length = ps.length ∧
      ∀ (i : Nat) p v, ps[i]? = some p → Rep φ nx w (SS c.So φ H) p v → ∃ q, (passes ns H ps).1[i]? = some q ∧ Rep φ nx w (SS c.So φ (passes ns H ps).2) q v
  | [], H, hs => ⟨hs, Mono.refl _ _, rfl, fun i p v h => by simp at h⟩
  | x :: t, H, hs => by
    simp only [passes]
    split
    · obtain ⟨a1, a2, a3, a4⟩ := passes_ok (ns := ns) (ps := t) hs
      refine ⟨a1, a2, by simp [a3], fun i p v hp hr => ?_⟩
      cases i with
      | zero => simp at hp; subst hp; exact ⟨x, rfl, hr.step (fun _ _ => rfl) (Nat.le_refl _) a2⟩
      | succ i => simpa using a4 i p v (by simpa using hp) hr
    · obtain ⟨b1, b2, b3⟩ := pass1_ok hs x
      obtain ⟨a1, a2, a3, a4⟩ := passes_ok (ns := ns) (ps := t) b1
      refine ⟨a1, b2.trans a2, by simp [a3], fun i p v hp hr => ?_⟩
      cases i with
      | zero => simp at hp; subst hp; exact ⟨_, rfl, (b3 v hr).step (fun _ _ => rfl) (Nat.le_refl _) a2⟩
      | succ i => simpa using a4 i p v (by simpa using hp) (hr.step (fun _ _ => rfl) (Nat.le_refl _) b2)

def Tidy (r : PV) (Hr : Heap) : Prop := Dist Hr ∧ (∀ n ob, (n, ob) ∈ Hr → hasO (fun _ => true) ob = true) ∧ has (fun _ => true) r = true

def stepCall (P : Program) (env : Env) (H : Heap) (nx : Nat) (K : PV → Nat → Heap → Prop) (f : Operand) (args : List Operand) : Prop :=
  ∃ g caps ps ns os, ev env f = some (.clo (.func g) caps) ∧ evs env args = some ps ∧ Handed (passes ns H (allArgs ps caps)).2 ns os ∧
    (∀ (i : Nat) n, ns[i]? = some n → n < nx) ∧
    ((passes ns H (allArgs ps caps)).1.all (has fun n => ns.contains n)) = true ∧ (os.all (hasO fun n => ns.contains n)) = true ∧
    T P g ((passes ns H (allArgs ps caps)).1.map (ren (tau ns))) ns.length (mkH 0 (os.map (renO (tau ns)))) fun r k' Hr =>
      Tidy r Hr ∧ K (ren (sig ns nx) r) (nx + (k' - ns.length)) (renH (sig ns nx) Hr ++ drops (passes ns H (allArgs ps caps)).2 ns)

theorem exec_call {f : Operand} {args : Array Operand} {ts : Array Nat} {tmps : Array Value} {w : World} {g : Nat} {vs : Array Value} (ho : o.op = .call { callee := .value f, args, argTypes := ts })
    (hf : (act tmps).eval f = .func (.func g) #[] vs) (hc : Callable P g) : (execOp (act tmps).eval o).run P w = .ok (.enter g (args.map (act tmps).eval ++ vs)) w := by
  obtain ⟨fn, h1, h2, h3⟩ := hc
  have hb : fn.body.isNone = false := by cases hq : fn.body <;> simp_all
  simp only [execOp, ho, resolve, hf, Deferred.ofValue]
  simp only [Sem.run_bind, Sem.run_pure, Result.andThen_ok, invoke, callFunc, run_program, h1, h3, hb, Bool.false_eq_true, if_false]
  simp

theorem does_call {f : Operand} {args : Array Operand} {ts : Array Nat} (ho : o.op = .call { callee := .value f, args, argTypes := ts }) (h : stepCall P env H nx K f args.toList) : Does P o c nx env H K := by
  intro φ tmps w hs next Q hn
  obtain ⟨g, caps, ps, ns, os, h1, h2, h3, h3', h4, h5, h6⟩ := h
  have hf := ev_rep hs h1
  generalize hv : (act tmps).eval f = v at hf
  cases hf with
  | clo _ _ vs e1 e2 =>
    obtain ⟨a1, a2⟩ := evs_get hs h2
    obtain ⟨b1, b2, b3, b4⟩ := passes_ok (ns := ns) (ps := allArgs ps caps) hs
    unfold Oper.wp
    rw [exec_call ho hv h6.1, Oper.upon_enter]
    have hsz : (args.map (act tmps).eval ++ vs).size = (passes ns H (allArgs ps caps)).1.length := by
      rw [b3]; simp [allArgs, a1, e1]
    have hmem : ∀ n, n < nx → (fun n => ns.contains n) n = true → (fun i => φ (ns.getD i 0)) (tau ns n) = φ n ∧ tau ns n < ns.length := by
      intro n _ hn
      have hm : n ∈ ns := by simpa using hn
      obtain ⟨c1, c2⟩ := tau_mem hm
      exact ⟨by simp only [c2], c1⟩
    generalize hH1 : (passes ns H (allArgs ps caps)).2 = H1 at *
    have hlowSo : ∀ b off, (c.So b off ∨ Own φ (drops H1 ns) b off) → b < w.heap.size := by
      rintro b off (hso | ⟨n, ob, m1, m2, m3, m4⟩)
      · exact Nat.lt_of_lt_of_le (c.low _ _ hso) b1.ext.size
      · rw [look_drops] at m1
        split at m1
        · cases m1
        · rw [← m3]; exact (b1.ok.obj n ob m1).2.lt m2
    -- the owned cells are the same, told by the callee's names
    have hlookc : ∀ i ob, look (mkH 0 (os.map (renO (tau ns)))) i = some ob → ∃ n o1, ns[i]? = some n ∧ look H1 n = some o1 ∧ os[i]? = some o1 ∧ ob = renO (tau ns) o1 := by
      intro i ob hi
      rw [look_mkH] at hi
      simp only [Nat.zero_le, if_true, Nat.sub_zero, List.getElem?_map, Option.map_eq_some_iff] at hi
      obtain ⟨o0, i1, rfl⟩ := hi
      have hlt : i < ns.length := by rw [← h3.len]; exact (List.getElem?_eq_some_iff.1 i1).1
      obtain ⟨o', i2, i3⟩ := h3.obj i ns[i] (by simp [hlt])
      rw [i2] at i1; cases i1
      exact ⟨ns[i], _, by simp [hlt], i3, i2, rfl⟩
    have hgetD : ∀ (i : Nat) n, ns[i]? = some n → ns.getD i 0 = n := fun i n h => by simp [List.getD_eq_getElem?_getD, h]
    have hSS : ∀ b off, SS c.So φ H1 b off ↔ SS (fun b off => c.So b off ∨ Own φ (drops H1 ns) b off) (fun i => φ (ns.getD i 0)) (mkH 0 (os.map (renO (tau ns)))) b off := by
      intro b off
      constructor
      · rintro (hso | ⟨n, ob, m1, m2, m3, m4⟩)
        · exact .inl (.inl hso)
        · by_cases hm : n ∈ ns
          · obtain ⟨i, hi⟩ := List.getElem?_of_mem hm
            obtain ⟨o', i2, i3⟩ := h3.obj i n hi
            rw [m1] at i3; cases i3
            refine .inr ⟨i, renO (tau ns) ob, by rw [look_mkH]; simp [i2], ?_, ?_, ?_⟩
            · simp only [hgetD i n hi]; exact m2
            · simp only [hgetD i n hi]; exact m3
            · simp only [hgetD i n hi, lim_renO]; exact m4
          · exact .inl (.inr ⟨n, ob, by rw [look_drops, if_neg hm]; exact m1, m2, m3, m4⟩)
      · rintro ((hso | ⟨n, ob, m1, m2, m3, m4⟩) | ⟨i, ob, m1, m2, m3, m4⟩)
        · exact .inl hso
        · rw [look_drops] at m1
          split at m1
          · cases m1
          · exact .inr ⟨n, ob, m1, m2, m3, m4⟩
        · obtain ⟨n, o1, i1, i2, i3, rfl⟩ := hlookc i ob m1
          simp only [hgetD i n i1, lim_renO] at m2 m3 m4
          exact .inr ⟨n, o1, i2, m2, m3, m4⟩
    have hSSe : SS c.So φ H1 = SS (fun b off => c.So b off ∨ Own φ (drops H1 ns) b off) (fun i => φ (ns.getD i 0)) (mkH 0 (os.map (renO (tau ns)))) := by funext b off; exact propext (hSS b off)
    have hokc : Ok (fun i => φ (ns.getD i 0)) ns.length (fun b off => c.So b off ∨ Own φ (drops H1 ns) b off) (mkH 0 (os.map (renO (tau ns)))) w := by
      refine ⟨fun i ob hi => ?_, fun i j oi oj hi hj hne n1 n2 => ?_, fun i ob hi hnil off => ?_⟩
      · obtain ⟨n, o1, i1, i2, i3, rfl⟩ := hlookc i ob hi
        refine ⟨(List.getElem?_eq_some_iff.1 i1).1, ?_⟩
        exact (b1.ok.obj n o1 i2).2.ren hmem hSS (by simp only [hgetD i n i1]) (List.all_eq_true.1 h5 o1 (List.mem_of_getElem? i3))
      · obtain ⟨n, o1, i1, i2, i3, rfl⟩ := hlookc i oi hi
        obtain ⟨m, o2, j1, j2, j3, rfl⟩ := hlookc j oj hj
        simp only [hgetD i n i1, hgetD j m j1] at n1 n2 ⊢
        have hil := (List.getElem?_eq_some_iff.1 i1).1
        exact b1.ok.dis n m o1 o2 i2 j2 (fun e => hne ((List.getElem?_inj hil h3.nodup).1 (by rw [i1, j1, e]))) n1 n2
      · obtain ⟨n, o1, i1, i2, i3, rfl⟩ := hlookc i ob hi
        simp only [hgetD i n i1] at hnil ⊢
        rintro (hso | ⟨m, o2, m1, m2, m3, m4⟩)
        · exact b1.ok.out n o1 i2 hnil off hso
        · rw [look_drops] at m1
          split at m1
          · cases m1
          · rename_i hm
            exact b1.ok.dis m n o2 o1 m1 i2 (fun e => hm (by rw [e]; exact List.mem_of_getElem? i1)) m2 hnil m3
    refine (h6.2 w (fun i => φ (ns.getD i 0)) (fun b off => c.So b off ∨ Own φ (drops H1 ns) b off) (args.map (act tmps).eval ++ vs) hlowSo hokc (by rw [hsz]; simp) ?_).mono ?_
    · intro i a u ha hu
      simp only [List.getElem?_map, Option.map_eq_some_iff] at ha
      obtain ⟨a0, g1, rfl⟩ := ha
      have hil : i < (allArgs ps caps).length := by rw [← b3]; exact (List.getElem?_eq_some_iff.1 g1).1
      have hrep : Rep φ nx w (SS c.So φ H) (allArgs ps caps)[i] u := by
        by_cases hi : i < ps.length
        · obtain ⟨x, x1, x2⟩ := a2 i ps[i] (by simp [hi])
          have : (allArgs ps caps)[i] = ps[i] := by simp [allArgs, hi]
          rw [this]
          have hx : i < args.size := by have := (List.getElem?_eq_some_iff.1 x1).1; simpa using this
          rw [Array.getElem?_append, if_pos (by simpa using hx)] at hu
          have : args[i]? = some x := by simpa using x1
          simp [this] at hu
          rw [← hu]; exact x2
        · have hil2 : i - ps.length < caps.length := by simp [allArgs] at hil; omega
          have : (allArgs ps caps)[i] = caps[i - ps.length] := by simp [allArgs, List.getElem_append, hi]
          rw [this]
          have hsa : args.size = ps.length := by rw [a1]; simp
          rw [Array.getElem?_append, if_neg (by simp; omega)] at hu
          simp only [Array.size_map, hsa] at hu
          exact e2 (i - ps.length) _ u (by simp [hil2]) hu
      obtain ⟨q, q1, q2⟩ := b4 i _ u (by simp [hil]) hrep
      rw [g1] at q1; cases q1
      rw [← hSSe]
      exact q2.ren hmem (List.all_eq_true.1 h4 _ (List.mem_of_getElem? g1))
    · rintro e w' ⟨r, k', Hr, φ', v, rfl, ⟨⟨t1, t2, t3⟩, hk⟩, hok, hr, hext, hle, hφ⟩
      simp only
      obtain ⟨φ2, s1, s2⟩ := b1.called h3 rfl rfl hok hr hext hle hφ t1 t2 t3
      exact hn _ _ _ φ2 v w' hk s1 s2

/-- One operation. -/
def stepOp (P : Program) (tab : Tab) (env : Env) (nx : Nat) (H : Heap) (K : PV → Nat → Heap → Prop) : Op → Prop
  | .move x => stepMove env H nx K x
  | .assign x => stepMove env H nx K x
  | .pick x a b => stepPick env H nx K x a b
  | .alloc e => stepAlloc tab H nx K e
  | .box _ x => stepBox env H nx K x
  | .build t parts => stepBuild tab env H nx K t parts.toList
  | .buildSlice t len parts => stepBuildSlice tab env H nx K t len parts.toList
  | .load t x => stepLoad tab env H nx K t x
  | .store t x y => stepStore tab env H nx K t x y
  | .nilCheck x => stepNilCheck env H nx K x
  | .binOp op t x y _ => stepBinOp tab env H nx K op t x y ∨ stepNil tab env H nx K op t x y ∨ stepEqS P tab env H nx K op t x y
  | .unOp op _ x => stepUnOp env H nx K op x
  | .convert s t x => stepConv tab env H nx K s t x ∨ stepText tab env H nx K s t x
  | .makeFunc fn first caps => first.toList = [] ∧ stepMakeFunc env H nx K fn caps.toList
  | .makeSlice t x y => (∀ e ie, tab e = some ie → ie.kd.agg = false → ie.size = 1) ∧ stepMakeSlice tab env H nx K t x y
  | .slice t x lo hi mx => stepSlice tab env H nx K t x lo hi mx
  | .fieldAddr s x q => stepFieldAddr tab env H nx K s x q
  | .field s x q => stepField tab env H nx K s x q
  | .indexAddr t x ix => stepIndexAddr tab env H nx K t x ix
  | .index t x ix => stepIndex tab env H nx K t x ix
  | .extract x i => stepExtract env H nx K x i
  | .makeMap _ x => stepMakeMap H nx K x
  | .lookup t x y ok => stepLookup P env H nx K t x y ok
  | .mapUpdate t x y z => stepMapUpdate P env H nx K t x y z
  | .call { callee := .value f, args, argTypes := _ } => stepCall P env H nx K f args.toList
  | .call { callee := .builtin b, args, argTypes } =>
    match b, args.toList, argTypes.toList with
    | .len, [x], [t] => stepLen tab env H nx K t x
    | .append, [s, x], [t, u] => stepAppend tab env H nx K t u s x
    | .copy, [s, x], [t, u] => stepCopy tab env H nx K t u s x
    | .max, xs, _ => stepMM env H nx K .max xs
    | .min, xs, _ => stepMM env H nx K .min xs
    | _, _, _ => False
  | _ => False

theorem toArr {α : Type} {a : Array α} {l : List α} (h : a.toList = l) : a = l.toArray := by rw [← h]

theorem does_op (ht : TabOk P tab) (h : stepOp P tab env nx H K o.op) : Does P o c nx env H K := by
  unfold stepOp at h
  split at h
  case h_1 ho => exact does_move (.inl ho) h
  case h_2 ho => exact does_move (.inr ho) h
  case h_3 ho => exact does_pick ho h
  case h_4 ho => exact does_alloc ht ho h
  case h_5 ho => exact does_box ho h
  case h_6 ho => exact does_build ht ho h
  case h_7 ho => exact does_buildSlice ht ho h
  case h_8 ho => exact does_load ht ho h
  case h_9 ho => exact does_store ht ho h
  case h_10 ho => exact does_nilCheck ho h
  case h_11 ho => rcases h with h | h | h; exact does_binOp ht ho h; exact does_nil ht ho h; exact does_eqS ht ho h
  case h_12 ho => exact does_unOp ho h
  case h_13 ho => rcases h with h | h; exact does_convert ht ho h; exact does_text ht ho h
  case h_14 ho => obtain ⟨h0, h⟩ := h; rw [toArr h0] at ho; exact does_makeFunc ho h
  case h_15 ho => exact does_makeSlice ht ho h.1 h.2
  case h_16 ho => exact does_slice ht ho h
  case h_17 ho => exact does_fieldAddr ht ho h
  case h_18 ho => exact does_field ht ho h
  case h_19 ho => exact does_indexAddr ht ho h
  case h_20 ho => exact does_index ht ho h
  case h_21 ho => exact does_extract ho h
  case h_22 ho => exact does_makeMap ho h
  case h_23 ho => exact does_lookup ho h
  case h_24 ho => exact does_mapUpdate ho h
  case h_25 ho => exact does_call ho h
  case h_26 ho =>
    split at h
    · rename_i e1 e2; rw [toArr e1, toArr e2] at ho; exact does_len ht ho h
    · rename_i e1 e2; rw [toArr e1, toArr e2] at ho; exact does_append ht ho h
    · rename_i e1 e2; rw [toArr e1, toArr e2] at ho; exact does_copy ht ho h
    · exact does_mm (xs := _) (by simpa using ho) h
    · exact does_mm (xs := _) (by simpa using ho) h
    · exact h.elim
  case h_27 => exact h.elim

def putE (d : Option Nat) (pv : PV) (env : Env) : Env := match d with | some d => (d, pv) :: env | none => env
abbrev undefP : PV := .f (.v undef)
/-- An operation that does not run leaves what is no value. -/
def dropE (d : Option Nat) (env : Env) : Env := putE d undefP env
/-- What a guard's slot says. -/
def vb : Value → Option Bool
  | .bool b => some b
  | _ => none
theorem yielded_vb {ops : Array Oper} {tmps : Array Value} {j d : Nat} {v : Value} (h : (ops[j]?).bind (·.dst) = some d) (hv : tmps[d]? = some v) : yielded ops tmps j = vb v := by
  unfold yielded
  rw [h]
  simp only [Option.bind_some, hv]
  cases v <;> rfl
def dstOk (nt : Nat) (d : Option Nat) : Bool := match d with | some d => decide (d < nt) | none => true

/-- Operations in the text's order. -/
def wpl (P : Program) (tab : Tab) (nt : Nat) (ops : Array Oper) : List Oper → Env → Nat → Heap → (Env → Nat → Heap → Prop) → Prop
  | [], env, nx, H, C => C env nx H
  | o :: rest, env, nx, H, C =>
    match o.guard with
    | none => dstOk nt o.dst = true ∧ stepOp P tab env nx H (fun pv nx' H' => wpl P tab nt ops rest (putE o.dst pv env) nx' H' C) o.op
    | some (j, want) => ∃ d v, (ops[j]?).bind (·.dst) = some d ∧ look env d = some (.f (.v v)) ∧ dstOk nt o.dst = true ∧
        (vb v = some want → stepOp P tab env nx H (fun pv nx' H' => wpl P tab nt ops rest (putE o.dst pv env) nx' H' C) o.op) ∧
        (vb v ≠ some want → wpl P tab nt ops rest (dropE o.dst env) nx H C)

theorem StΦ.putE {φ : Nat → Phys} {tmps : Array Value} {w : World} (h : StΦ c nx env H φ tmps w) {pv : PV} {v : Value} {d : Option Nat} (hr : Rep φ nx w (SS c.So φ H) pv v) (hd : dstOk c.nt d = true) :
    StΦ c nx (Pv.putE d pv env) H φ ((act tmps).put d v).tmps w := by
  cases d with
  | none => exact h
  | some d => exact h.put hr (by simpa [dstOk] using hd)

theorem wpl_ok (ht : TabOk P tab) {ops : Array Oper} {Q : Exit → Act → World → Prop} {C : Env → Nat → Heap → Prop}
    (hC : ∀ env nx H φ tmps w, C env nx H → StΦ c nx env H φ tmps w → Q .normal (act tmps) w) :
    ∀ (l : List Oper) (env : Env) (nx : Nat) (H : Heap) (φ : Nat → Phys) (tmps : Array Value) (w : World), StΦ c nx env H φ tmps w → wpl P tab c.nt ops l env nx H C → wpList P ops Q l (act tmps) w
  | [], env, nx, H, φ, tmps, w, hs, h => hC env nx H φ tmps w h hs
  | o :: rest, env, nx, H, φ, tmps, w, hs, h => by
    have run : dstOk c.nt o.dst = true → stepOp P tab env nx H (fun pv nx' H' => wpl P tab c.nt ops rest (Pv.putE o.dst pv env) nx' H' C) o.op → o.wp P (act tmps) w (wpList P ops Q rest) Q := by
      intro hd hst
      refine does_op ht hst φ tmps w hs _ _ fun pv nx' H' φ' v w' hk hs' hr => ?_
      have e : (act tmps).put o.dst v = act ((act tmps).put o.dst v).tmps := by cases o.dst <;> rfl
      rw [e]
      exact wpl_ok ht hC rest _ nx' H' φ' _ w' (hs'.putE hr hd) hk
    simp only [wpl] at h
    unfold wpList
    split at h
    · rename_i hg
      rw [if_pos (by simp [Region.wanted, hg])]
      exact .inl (run h.1 h.2)
    · rename_i j want hg
      obtain ⟨d, b, h1, h2, h3, h4, h5⟩ := h
      obtain ⟨v, k1, k2⟩ := hs.env d _ h2
      have hv := k2.v_inv
      subst hv
      have hy := yielded_vb h1 k1
      by_cases hb : vb v = some want
      · rw [if_pos (by simp [Region.wanted, hg, hy, hb])]
        exact .inl (run h3 (h4 hb))
      · rw [if_neg (by simp [Region.wanted, hg, hy, hb])]
        have e : (act tmps).put o.dst undef = act ((act tmps).put o.dst undef).tmps := by cases o.dst <;> rfl
        rw [e]
        exact wpl_ok ht hC rest _ nx H φ _ w (hs.putE (.f (.v undef)) h3) (h5 hb)
end
end Go.Proofs.YtnajikpdnccilaaGreat.Pv
