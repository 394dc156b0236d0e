/- What the law JoinTells needs, and no more: merged out of texts of this session by a program of it (wip/tools/prune.py). -/
import Derived.Test.YtlcmbkkimgdnmaaQJoinTells1
set_option linter.unusedVariables false
set_option linter.unusedSimpArgs false
namespace Go.Proofs.Ytlcmbkkimgdnmaa.Pv
open Go
def lookAll (H : Heap) : List Nat → Option (List Obj)
  | [] => some []
  | n :: t => match look H n with
    | some o => (match lookAll H t with|some os => some (o :: os)|none => none)
    | none => none
theorem lookAll_ok {H : Heap} : ∀ {ns : List Nat}{os : List Obj},lookAll H ns = some os → HandP H ns os
  | [],os,h => by cases h; trivial
  | n :: t,os,h => by
    unfold lookAll at h
    split at h
    · rename_i o ho
      split at h
      · rename_i os' h2; cases h; exact ⟨ho,lookAll_ok h2⟩
      · cases h
    · cases h
def nodupB : List Nat → Bool
  | [] => true
  | n :: t => !(t.contains n) && nodupB t
theorem nodupB_ok : ∀ {ns : List Nat},nodupB ns = true → ns.Nodup
  | [],_ => List.nodup_nil
  | n :: t,h => by
    unfold nodupB at h
    rw [Bool.and_eq_true] at h
    exact List.nodup_cons.2 ⟨by simpa using h.1,nodupB_ok h.2⟩
def callRun (env : Env) (nx : Nat) (H : Heap) (f : Operand) (args : List Operand) (ns : List Nat) (r : PV) (k0 : Nat) (H0 : Heap) : Option (Nat × List PV × Nat × Heap × PV × Nat × Heap) :=
  match ev env f with
  | some (.clo (.func g) caps) => (match evs env args with
    | some ps => (match lookAll (passes ns H (ps ++ caps)).2 ns with
      | some os => (match (nodupB ns && ns.all fun n => decide (n < nx)) && ((passes ns H (ps ++ caps)).1.all (has fun n => ns.contains n)) && (os.all (hasO fun n => ns.contains n)) && (has (fun _ => true) r && (distB H0 && H0.all fun p => hasO (fun _ => true) p.2)) with
        | true => some (g,(passes ns H (ps ++ caps)).1.map (ren (tau ns)),ns.length,mkH 0 (os.map (renO (tau ns))),ren (sig ns nx) r,nx + (k0 - ns.length),renH (sig ns nx) H0 ++ drops (passes ns H (ps ++ caps)).2 ns)
        | false => none)
      | none => none)
    | none => none)
  | _ => none
theorem s_callKk {P : Program}{tab : Tab}{env : Env}{nx : Nat}{H : Heap}{K : PV → Nat → Heap → Prop}{f : Operand}{args : Array Operand}{ts : Array Nat}{g : Nat}{ps3 : List PV}{r r2 : PV}{k0 k nx1 : Nat}{H0 H1 H3 : Heap} (ns : List Nat) (ht : T P g ps3 k H1 (Ret r k0 H0)) (h : K r2 nx1 H3)
    (hk : callRun env nx H f args.toList ns r k0 H0 = some (g,ps3,k,H1,r2,nx1,H3)) : stepOp P tab env nx H K (.call { callee := .value f,args := args,argTypes := ts }) := by
  unfold callRun at hk
  split at hk
  · rename_i g' caps he
    split at hk
    · rename_i ps hps
      split at hk
      · rename_i os hos
        split at hk
        · rename_i hb
          simp only [Bool.and_eq_true] at hb
          obtain ⟨⟨⟨⟨b1,b2⟩,b3⟩,b4⟩,b5,b6,b7⟩ := hb
          cases hk
          exact s_callR (ps := ps) (caps := caps) ns he hps (handed_of (nodupB_ok b1) (lookAll_ok hos)) b2 b3 b4 ht b5 (dist_of b6) b7 h
        · cases hk
      · cases hk
    · cases hk
  · cases hk
theorem s_callK {P : Program}{tab : Tab}{env : Env}{nx : Nat}{H : Heap}{K : PV → Nat → Heap → Prop}{f : Operand}{args : Array Operand}{ts : Array Nat}{g : Nat}{ps3 : List PV}{r : PV}{k0 k : Nat}{H0 H1 : Heap} (nx1 : Nat) (r2 : PV) (H3 : Heap) (ns : List Nat) (ht : T P g ps3 k H1 (Ret r k0 H0)) (h : K r2 nx1 H3)
    (hk : callRun env nx H f args.toList ns r k0 H0 = some (g,ps3,k,H1,r2,nx1,H3) := by kernel_rfl) : stepOp P tab env nx H K (.call { callee := .value f,args := args,argTypes := ts }) := s_callKk ns ht h hk
theorem nb {a b : Nat} (h : Nat.ble a b = true) : a ≤ b := Nat.le_of_ble_eq_true h
section
variable {P : Program}{tab : Tab}{c : Ctx}{ops : Array Oper}{nt nx : Nat}{env : Env}{H : Heap}{Q Q2 : Post}{F : Env → Nat → Heap → Prop}{a b : Code}
theorem re (h : F env nx H) : R P c ops [] env nx H (thenP F Q) := r_end (q_then h)
theorem sr {id : Nat} (h : R P c ops ops.toList env nx H (thenP (fun env nx H => W P c b env nx H Q) Q)) : W P c (.seq (.region id ops false) b) env nx H Q := w_seq (w_R h)
def retC (tab : Tab) (env : Env) (H : Heap) : List ResultVar → Option (List PV)
  | [] => some []
  | .tmp t :: r => match look env t with
    | some x => (match retC tab env H r with|some ys => some (x :: ys)|none => none)
    | none => none
  | .cell a t :: r => match tab t with
    | some i => (match szOk i with
      | true => (match look env a with
        | some (.ptr n off) => (match look H n with
          | some (.obj cs) => (match Nat.ble (off + i.size) cs.length with
            | true => (match retC tab env H r with
              | some ys => some ((if i.kd.agg then mkAgg ((cs.drop off).take i.size) else (cs.drop off).headD (.f (.v undef))) :: ys)
              | none => none)
            | false => none)
          | _ => none)
        | _ => none)
      | false => none)
    | none => none
theorem retC_ok : ∀ {rs : List ResultVar}{xs : List PV},retC tab env H rs = some xs → retL tab env H rs xs
  | [],xs,h => by cases h; exact ret_nil
  | .tmp t :: r,xs,h => by
    unfold retC at h
    split at h
    · rename_i x hx
      split at h
      · rename_i ys hy; cases h; exact ret_tmp hx (retC_ok hy)
      · cases h
    · cases h
  | .cell a t :: r,xs,h => by
    unfold retC at h
    split at h
    · rename_i i hi
      split at h
      · rename_i hz
        split at h
        · rename_i n off he
          split at h
          · rename_i cs hl
            split at h
            · rename_i hb
              split at h
              · rename_i ys hy; cases h; exact ret_cell hi (szOk_of hz) he hl (nb hb) rfl (retC_ok hy)
              · cases h
            · cases h
          · cases h
        · cases h
      · cases h
    · cases h
theorem fpk {rs : List ResultVar}{k : Nat}{r : PV} (h : (retC tab env H rs).map packR = some r) (hr : has (fun _ => false) r = true) : FinP tab rs k (Ret r k []) .ret env nx H := by
  obtain ⟨xs,h1,h2⟩ := Option.map_eq_some_iff.1 h
  exact fin_plain (retC_ok h1) h2 hr ⟨rfl,rfl,rfl⟩
theorem fp {rs : List ResultVar}{k : Nat}{r : PV} (h : (retC tab env H rs).map packR = some r := by kernel_rfl) (hr : has (fun _ => false) r = true := by kernel_rfl) : FinP tab rs k (Ret r k []) .ret env nx H := fpk h hr
end
def codeD : Code → List Nat
  | .region _ ops _ => dsts ops.toList
  | .seq a b => codeD a ++ codeD b
  | .cond _ a b => codeD a ++ codeD b
  | _ => []
def xLin (P : Program) (tab : Tab) (nt : Nat) : Nat → List (List XA) → Code → Env → Nat → Heap → Option (List Prop × List (List XA) × Env)
  | 0,_,_,_,_,_ => none
  | f + 1,ss,.seq a b,env,nx,H => (match xLin P tab nt f ss a env nx H with
    | some (cs,ss1,e1) => (match xLin P tab nt f ss1 b e1 nx H with
      | some (cs2,ss2,e2) => some (cs ++ cs2,ss2,e2)
      | none => none)
    | none => none)
  | f + 1,s :: ss,.region _ ops false,env,nx,H => (match xGo P false tab nt ops 600 s ops.toList env nx H with
    | some (cs,e,_,_) => some (cs,ss,e)
    | none => none)
  | _,_,_,_,_,_ => none
def xOr (P : Program) (tab : Tab) (nt t : Nat) : Nat → List (List XA) → Code → Env → Nat → Heap → Option (List Prop × Bool × List (List XA))
  | 0,_,_,_,_,_ => none
  | f + 1,ss,.seq a b,env,nx,H => (match xLin P tab nt f ss a env nx H with
    | some (cs,ss1,e1) => (match xOr P tab nt t f ss1 b e1 nx H with
      | some (cs2,v,ss2) => some (cs ++ cs2,v,ss2)
      | none => none)
    | none => none)
  | f + 1,ss,.cond (.tmp t') .skip els,env,nx,H => (match Nat.beq t' t with
    | true => (match look env t with
      | some (.f (.v (.bool b))) => (match xOr P tab nt t f ss els ((t,.f (.v (.bool false))) :: env) nx H with
        | some (cs,u,ss1) => some (impP (b = false) cs,b || u,ss1)
        | none => none)
      | _ => none)
    | false => none)
  | f + 1,s :: ss,.region _ ops false,env,nx,H => (match xGo P false tab nt ops 600 s ops.toList env nx H with
    | some (cs,e,_,_) => (match look e t with
      | some (.f (.v (.bool u))) => some (cs,u,ss)
      | _ => none)
    | none => none)
  | _,_,_,_,_,_ => none
section
variable {P : Program}{tab : Tab}{c : Ctx}{nt : Nat}
theorem w_sub {Q : Post}{code : Code}{E env : Env}{nx : Nat}{H : Heap} (he : ∀ k p,look E k = some p → look env k = some p) (h : W P c code E nx H Q) : W P c code env nx H Q :=
  fun φ tmps w hs => h φ tmps w { hs with env := fun k p hk => hs.env k p (he k p hk) }
theorem xLin_ok (ht : TabOk P tab) (hnt : c.nt = nt) : ∀ {f : Nat}{ss ss' : List (List XA)}{code : Code}{env env' : Env}{nx : Nat}{H : Heap}{cs : List Prop}{Q : Post},xLin P tab nt f ss code env nx H = some (cs,ss',env') → AllP cs → Q .normal env' nx H →
    W P c code env nx H Q ∧ ∀ k,k ∉ codeD code → look env' k = look env k
  | 0,_,_,_,_,_,_,_,_,_,h,_,_ => by simp [xLin] at h
  | f + 1,ss,_,code,env,_,nx,H,_,Q,h,hc,k => by
    unfold xLin at h
    split at h
    · cases h
    · rename_i f' a b hf
      cases hf
      split at h
      · rename_i cs1 ss1 e1 h1
        split at h
        · rename_i cs2 ss2 e2 h2
          cases h
          have k2 := xLin_ok ht hnt h2 hc.right k
          have k1 := xLin_ok ht hnt (Q := thenP (fun env nx H => W P c b env nx H Q) Q) h1 hc.left k2.1
          refine ⟨w_seq k1.1,fun q hq => ?_⟩
          simp only [codeD,List.mem_append,not_or] at hq
          rw [k2.2 q hq.2,k1.2 q hq.1]
        · cases h
      · cases h
    · rename_i f' s ss0 id ops hf
      cases hf
      split at h
      · rename_i cs1 e1 n1 H1 h1
        cases h
        obtain ⟨z1,z2⟩ := xGo_pure h1
        subst z1; subst z2
        exact ⟨w_R (xGo_ok ht hnt h1 hc (r_end k)),fun q hq => xGo_look h1 q hq⟩
      · cases h
    · cases h
theorem xOr_ok (ht : TabOk P tab) (hnt : c.nt = nt) {t : Nat} : ∀ {f : Nat}{ss ss' : List (List XA)}{code : Code}{env : Env}{nx : Nat}{H : Heap}{cs : List Prop}{v : Bool}{Q : Post},xOr P tab nt t f ss code env nx H = some (cs,v,ss') → AllP cs →
    (∀ e,look e t = some (.f (.v (.bool v))) → (∀ k,k ∉ codeD code → k ≠ t → look e k = look env k) → Q .normal e nx H) → W P c code env nx H Q
  | 0,_,_,_,_,_,_,_,_,_,h,_,_ => by simp [xOr] at h
  | f + 1,ss,_,code,env,nx,H,_,_,Q,h,hc,k => by
    unfold xOr at h
    split at h
    · cases h
    · rename_i f' a b hf
      cases hf
      split at h
      · rename_i cs1 ss1 e1 h1
        split at h
        · rename_i cs2 u ss2 h2
          cases h
          have hl := (xLin_ok ht hnt (Q := fun _ _ _ _ => True) h1 hc.left trivial).2
          refine w_seq (xLin_ok ht hnt (Q := thenP (fun env nx H => W P c b env nx H Q) Q) h1 hc.left (xOr_ok ht hnt h2 hc.right fun e he hk => k e he fun q hq hqt => ?_)).1
          simp only [codeD,List.mem_append,not_or] at hq
          rw [hk q hq.2 hqt,hl q hq.1]
        · cases h
      · cases h
    · rename_i f' t' els hf
      cases hf
      split at h
      · rename_i htt
        have htt := Nat.eq_of_beq_eq_true htt
        subst htt
        split at h
        · rename_i b hl
          split at h
          · rename_i cs1 u ss1 h1
            cases h
            refine w_if hl (fun hb => ?_) (fun hb => ?_)
            · subst hb
              exact w_skip (k _ hl fun q hq hqt => rfl)
            · subst hb
              refine w_sub ?_ (xOr_ok ht hnt h1 (impP_of hc rfl) fun e he hk => k e he fun q hq hqt => ?_)
              · intro q p hq
                by_cases hqt : t' = q
                · subst hqt; rw [look_cons_same] at hq; rw [hl]; exact hq
                · rw [look_cons_ne _ _ hqt] at hq; exact hq
              · simp only [codeD,List.mem_append,not_or] at hq
                rw [hk q hq.2 hqt,look_cons_ne _ _ (fun e => hqt e.symm)]
          · cases h
        · cases h
      · cases h
    · rename_i f' s ss0 id ops hf
      cases hf
      split at h
      · rename_i cs1 e1 n1 H1 h1
        split at h
        · rename_i u hu
          cases h
          obtain ⟨z1,z2⟩ := xGo_pure h1
          subst z1; subst z2
          exact w_R (xGo_ok ht hnt h1 hc (r_end (k _ hu fun q hq _ => xGo_look h1 q hq)))
        · cases h
      · cases h
    · cases h
def xOrF (r : Option (List Prop × Bool × List (List XA))) (fr : Bool) : Option (List Prop × Bool) := match fr with
  | true => r.map fun r => (r.1,r.2.1)
  | false => none
theorem x_or (ht : TabOk P tab) (hnt : c.nt = nt) {Q : Post}{code b : Code}{env : Env}{nx : Nat}{H : Heap} (t : Nat) (ss : List (List XA)) (cs : List Prop) (v : Bool) (h : xOrF (xOr P tab nt t 400 ss code env nx H) ((codeD code).all fun d => Nat.beq d t || (look env d).isNone) = some (cs,v)) (hc : AllP cs)
    (k : W P c b ((t,.f (.v (.bool v))) :: env) nx H Q) : W P c (.seq code b) env nx H Q := by
  unfold xOrF at h
  split at h
  · rename_i hfr
    obtain ⟨⟨cs0,v0,s0⟩,h1,h2⟩ := Option.map_eq_some_iff.1 h
    cases h2
    refine w_seq (xOr_ok ht hnt (Q := thenP (fun env nx H => W P c b env nx H Q) Q) h1 hc fun e he hk => q_then (w_sub (E := (t,.f (.v (.bool v0))) :: env) (fun q p hq => ?_) k))
    by_cases hqt : t = q
    · subst hqt; rw [look_cons_same] at hq; rw [he]; exact hq
    · rw [look_cons_ne _ _ hqt] at hq
      rw [hk q (fun hm => ?_) (fun e => hqt e.symm)]
      · exact hq
      · have := List.all_eq_true.1 hfr q hm
        rw [hq] at this
        simp only [Option.isNone_some,Bool.or_false] at this
        exact hqt (Nat.eq_of_beq_eq_true this).symm
  · cases h
end
end Go.Proofs.Ytlcmbkkimgdnmaa.Pv
namespace Go.Proofs.Ytlcmbkkimgdnmaa
open Go Go.Proofs.Ytlcmbkkimgdnmaa.Pv
end Go.Proofs.Ytlcmbkkimgdnmaa
namespace Go.Proofs.Ytlcmbkkimgdnmaa.Pv
open Go
theorem qo {c : Ctx}{nx nt : Nat}{env : Env}{H : Heap}{Q : Post}{ops : Array Oper}{rest : List Oper}{dst : Option Nat}{op : Op}{t : Nat}{p : String}{a : Array Edge} (hnt : c.nt = nt) (hd : dstOk nt dst = true) (h : stepOp Try.prog tab env nx H (fun pv nx' H' => R Try.prog c ops rest (putE dst pv env) nx' H' Q) op) : R Try.prog c ops (⟨dst,op,t,p,a,none⟩ :: rest) env nx H Q := r_op tabOk hnt hd h
theorem qm {c : Ctx}{nx nt : Nat}{env : Env}{H : Heap}{Q : Post}{ops : Array Oper}{rest : List Oper}{dst : Option Nat}{t : Nat}{p : String}{a : Array Edge}{x : Operand}{pv : PV} (hnt : c.nt = nt) (hd : dstOk nt dst = true) (h : ev env x = some pv) (k : R Try.prog c ops rest (putE dst pv env) nx H Q) : R Try.prog c ops (⟨dst,.move x,t,p,a,none⟩ :: rest) env nx H Q := r_op tabOk hnt hd (s_move h k)
theorem qa {c : Ctx}{nx nt : Nat}{env : Env}{H : Heap}{Q : Post}{ops : Array Oper}{rest : List Oper}{dst : Option Nat}{t : Nat}{p : String}{a : Array Edge}{x : Operand}{pv : PV} (hnt : c.nt = nt) (hd : dstOk nt dst = true) (h : ev env x = some pv) (k : R Try.prog c ops rest (putE dst pv env) nx H Q) : R Try.prog c ops (⟨dst,.assign x,t,p,a,none⟩ :: rest) env nx H Q := r_op tabOk hnt hd (s_assign h k)
theorem ry {c : Ctx}{nx nt : Nat}{env : Env}{H : Heap}{Q : Post}{ops : Array Oper}{rest : List Oper}{dst : Option Nat}{op : Op}{t : Nat}{p : String}{a : Array Edge}{j d : Nat}{want b : Bool} (hnt : c.nt = nt) (hj : (ops[j]?).bind (·.dst) = some d) (hb : look env d = some (.f (.v (.bool b)))) (hd : dstOk nt dst = true) (e : b = want) (h : R Try.prog c ops (⟨dst,op,t,p,a,none⟩ :: rest) env nx H Q) : R Try.prog c ops (⟨dst,op,t,p,a,some (j,want)⟩ :: rest) env nx H Q := r_if tabOk hnt hj hb hd (fun _ => h) (fun e2 => absurd (e.symm.trans e2) (by cases want <;> decide))
theorem rn {c : Ctx}{nx nt : Nat}{env : Env}{H : Heap}{Q : Post}{ops : Array Oper}{rest : List Oper}{dst : Option Nat}{op : Op}{t : Nat}{p : String}{a : Array Edge}{j d : Nat}{want b : Bool} (hnt : c.nt = nt) (hj : (ops[j]?).bind (·.dst) = some d) (hb : look env d = some (.f (.v (.bool b)))) (hd : dstOk nt dst = true) (e : b = !want) (h : R Try.prog c ops rest (dropE dst env) nx H Q) : R Try.prog c ops (⟨dst,op,t,p,a,some (j,want)⟩ :: rest) env nx H Q := r_if tabOk hnt hj hb hd (fun e2 => absurd (e2.symm.trans e) (by cases want <;> decide)) (fun _ => h)
theorem ru {c : Ctx}{nx nt : Nat}{env : Env}{H : Heap}{Q : Post}{ops : Array Oper}{rest : List Oper}{dst : Option Nat}{op : Op}{t : Nat}{p : String}{a : Array Edge}{j d : Nat}{want : Bool} (hnt : c.nt = nt) (hj : (ops[j]?).bind (·.dst) = some d) (hb : look env d = some undefP) (hd : dstOk nt dst = true) (h : R Try.prog c ops rest (dropE dst env) nx H Q) : R Try.prog c ops (⟨dst,op,t,p,a,some (j,want)⟩ :: rest) env nx H Q := r_undef tabOk hnt hj hb hd h
theorem xp {c : Ctx}{nx nt : Nat}{env : Env}{H : Heap}{Q : Post}{ops : Array Oper}{l : List Oper} (hnt : c.nt = nt) (n : Nat) (us : List XA) (cs : List Prop) (D : Env) (k : R Try.prog c ops (l.drop n) (D ++ env) nx H Q) (h : (xFin (xGo Try.prog false tab nt ops 600 us (l.take n) env nx H) (D.map Prod.fst) (xFree env (l.take n))).map (fun r => (r.1,r.2.1)) = some (cs,D) := by kernel_rfl) (hc : AllP cs := by exact trivial) : R Try.prog c ops l env nx H Q := x_p tabOk hnt n us cs D h hc k
theorem xm {c : Ctx}{nx nt : Nat}{env : Env}{H : Heap}{Q : Post}{ops : Array Oper}{l : List Oper} (hnt : c.nt = nt) (n : Nat) (us : List XA) (cs : List Prop) (D : Env) (nx' : Nat) (H' : Heap) (k : R Try.prog c ops (l.drop n) (D ++ env) nx' H' Q) (h : xFin (xGo Try.prog true tab nt ops 600 us (l.take n) env nx H) (D.map Prod.fst) (xFree env (l.take n)) = some (cs,D,nx',H') := by kernel_rfl) (hc : AllP cs := by exact trivial) : R Try.prog c ops l env nx H Q := x_m tabOk hnt n us cs D nx' H' h hc k
theorem xa {c : Ctx}{nx nt : Nat}{env : Env}{H : Heap}{Q : Post}{ops : Array Oper}{l : List Oper} (hnt : c.nt = nt) (n : Nat) (us : List XA) (cs : List Prop) (E : Env) (nx' : Nat) (H' : Heap) (k : R Try.prog c ops (l.drop n) E nx' H' Q) (h : xFin (xGo Try.prog true tab nt ops 600 us (l.take n) env nx H) (E.map Prod.fst) true = some (cs,E,nx',H') := by kernel_rfl) (hc : AllP cs := by exact trivial) : R Try.prog c ops l env nx H Q := x_a tabOk hnt n us cs E nx' H' h hc k
theorem xo {c : Ctx}{nx nt : Nat}{env : Env}{H : Heap}{Q : Post}{code b : Code} (hnt : c.nt = nt) (t : Nat) (ss : List (List XA)) (cs : List Prop) (v : Bool) (k : W Try.prog c b ((t,.f (.v (.bool v))) :: env) nx H Q) (h : xOrF (xOr Try.prog tab nt t 400 ss code env nx H) ((codeD code).all fun d => Nat.beq d t || (look env d).isNone) = some (cs,v) := by kernel_rfl) (hc : AllP cs := by exact trivial) : W Try.prog c (.seq code b) env nx H Q := x_or tabOk hnt t ss cs v h hc k
theorem ae {c : Ctx}{nx nt : Nat}{env : Env}{H : Heap}{Q : Post}{F : Env → Nat → Heap → Prop}{ops : Array Oper}{dst : Option Nat}{x : Operand}{t : Nat}{p : String}{a : Array Edge}{pv : PV} (hnt : c.nt = nt) (hd : dstOk nt dst = true) (h : ev env x = some pv) (k : F (putE dst pv env) nx H) : R Try.prog c ops [⟨dst,.assign x,t,p,a,none⟩] env nx H (thenP F Q) := qa hnt hd h (re k)
theorem wdr {c : Ctx}{ops : Array Oper}{id nt nx : Nat}{Q : Post}{env : Env}{H : Heap} (hnt : c.nt = nt) (h : wpd Try.prog tab ops (xBef ops) ops.toList [] env nx H (fun cs env' N H' => planB nt nx N env H cs = true ∧ R Try.prog c ops [] env' N H' Q)) (hB : befOk ops (xBef ops) = true := by kernel_rfl) : W Try.prog c (.region id ops true) env nx H Q := W_drawnR tabOk mixed hnt (xBef ops) hB h
theorem xd {ops : Array Oper}{B : List (List Nat)}{l : List Oper}{acc : List Cert}{env : Env}{nx : Nat}{H : Heap}{C : List Cert → Env → Nat → Heap → Prop} (n : Nat) (s : List XD) (cs : List Prop) (nx' : Nat) (H' : Heap) (k : wpd Try.prog tab ops B (l.drop n) (xdA (xdGo Try.prog tab ops B 600 s l acc env nx H)) (xdE (xdGo Try.prog tab ops B 600 s l acc env nx H)) nx' H' C) (h : (match xdGo Try.prog tab ops B 600 s l acc env nx H with|some (cs,_,_,nx',H') => some (cs,nx',H',cntD s)|none => none) = some (cs,nx',H',n) := by kernel_rfl) (hc : AllP cs := by exact trivial) : wpd Try.prog tab ops B l acc env nx H C := x_d n s cs nx' H' h hc k
theorem xq {ops : Array Oper}{B : List (List Nat)}{l : List Oper}{acc : List Cert}{env : Env}{nx : Nat}{H : Heap}{C : List Cert → Env → Nat → Heap → Prop} (n : Nat) (s : List XD) (cs : List Prop) (k : wpd Try.prog tab ops B (l.drop n) (xdA (xdGo Try.prog tab ops B 600 s l acc env nx H)) (xdE (xdGo Try.prog tab ops B 600 s l acc env nx H)) nx H C) (h : (match xdGo Try.prog tab ops B 600 s l acc env nx H with|some (cs,_,_,nx',H') => some (cs,nx',H',cntD s)|none => none) = some (cs,nx,H,n) := by kernel_rfl) (hc : AllP cs := by exact trivial) : wpd Try.prog tab ops B l acc env nx H C := x_d n s cs nx H h hc k
theorem xkg {ops : Array Oper}{B : List (List Nat)}{rest : List Oper}{acc : List Cert}{env : Env}{nx nx1 : Nat}{H : Heap}{C : List Cert → Env → Nat → Heap → Prop}{dst : Option Nat}{op : Op}{t : Nat}{p : String}{a : Array Edge}{pv : PV}{g : Option (Nat × Bool)} (E0 : Env) (hR hT H1 Hn : Heap) (h : stepOp Try.prog tab E0 nx (hR ++ hT) (fun a b d => a = pv ∧ b = nx1 ∧ d = H1) op) (k : wpd Try.prog tab ops B rest (⟨⟨dst,op,t,p,a,g⟩,some pv,E0,hR,hT,drops H1 (hR.map Prod.fst),nx,nx1,B.getD acc.length []⟩ :: acc) (putE dst pv env) nx1 Hn C) (hE : cutE ops ⟨dst,op,t,p,a,g⟩ env = E0 := by kernel_rfl) (h1 : sel H (hR.map Prod.fst) = hR := by kernel_rfl) (h2 : sel H (hT.map Prod.fst) = hT := by kernel_rfl) (hle : Nat.ble nx nx1 = true := by kernel_rfl) (e2 : drops H1 (hR.map Prod.fst) ++ drops H (hT.map Prod.fst) = Hn := by kernel_rfl) (hs : sameH H1 hR := by exact trivial) : runD Try.prog tab ops B ⟨dst,op,t,p,a,g⟩ rest acc env nx H C := x_k E0 hR hT H1 Hn h k hE h1 h2 hle e2 hs
theorem xk {ops : Array Oper}{B : List (List Nat)}{rest : List Oper}{acc : List Cert}{env : Env}{nx nx1 : Nat}{H : Heap}{C : List Cert → Env → Nat → Heap → Prop}{dst : Option Nat}{op : Op}{t : Nat}{p : String}{a : Array Edge}{pv : PV} (E0 : Env) (hR hT H1 Hn : Heap) (h : stepOp Try.prog tab E0 nx (hR ++ hT) (fun a b d => a = pv ∧ b = nx1 ∧ d = H1) op) (k : wpd Try.prog tab ops B rest (⟨⟨dst,op,t,p,a,none⟩,some pv,E0,hR,hT,drops H1 (hR.map Prod.fst),nx,nx1,B.getD acc.length []⟩ :: acc) (putE dst pv env) nx1 Hn C) (hE : cutE ops ⟨dst,op,t,p,a,none⟩ env = E0 := by kernel_rfl) (h1 : sel H (hR.map Prod.fst) = hR := by kernel_rfl) (h2 : sel H (hT.map Prod.fst) = hT := by kernel_rfl) (hle : Nat.ble nx nx1 = true := by kernel_rfl) (e2 : drops H1 (hR.map Prod.fst) ++ drops H (hT.map Prod.fst) = Hn := by kernel_rfl) (hs : sameH H1 hR := by exact trivial) : wpd Try.prog tab ops B (⟨dst,op,t,p,a,none⟩ :: rest) acc env nx H C := d_op (x_k E0 hR hT H1 Hn h k hE h1 h2 hle e2 hs)
theorem xi {ops : Array Oper}{B : List (List Nat)}{rest : List Oper}{acc : List Cert}{env : Env}{nx : Nat}{H : Heap}{C : List Cert → Env → Nat → Heap → Prop}{dst : Option Nat}{op : Op}{t : Nat}{p : String}{a : Array Edge}{j : Nat}{want b : Bool} (d : Nat) (E0 : Env) (hb : look E0 d = some (.f (.v (.bool b)))) (h1 : b = want → runD Try.prog tab ops B ⟨dst,op,t,p,a,some (j,want)⟩ rest acc env nx H C) (h2 : b = (!want) → wpd Try.prog tab ops B rest (⟨⟨dst,op,t,p,a,some (j,want)⟩,some undefP,E0,[],[],[],nx,nx,B.getD acc.length []⟩ :: acc) (dropE dst env) nx H C) (hj : (ops[j]?).bind (·.dst) = some d := by kernel_rfl) (hE : cutE ops ⟨dst,op,t,p,a,some (j,want)⟩ env = E0 := by kernel_rfl) : wpd Try.prog tab ops B (⟨dst,op,t,p,a,some (j,want)⟩ :: rest) acc env nx H C := x_i E0 hb h1 h2 hj hE
theorem xey {ops : Array Oper}{B : List (List Nat)}{rest : List Oper}{acc : List Cert}{env : Env}{nx : Nat}{H : Heap}{C : List Cert → Env → Nat → Heap → Prop}{dst : Option Nat}{op : Op}{t : Nat}{p : String}{a : Array Edge}{j : Nat}{want b : Bool} (d : Nat) (E0 : Env) (hb : look E0 d = some (.f (.v (.bool b)))) (e : b = want) (h1 : runD Try.prog tab ops B ⟨dst,op,t,p,a,some (j,want)⟩ rest acc env nx H C) (hj : (ops[j]?).bind (·.dst) = some d := by kernel_rfl) (hE : cutE ops ⟨dst,op,t,p,a,some (j,want)⟩ env = E0 := by kernel_rfl) : wpd Try.prog tab ops B (⟨dst,op,t,p,a,some (j,want)⟩ :: rest) acc env nx H C := x_i E0 hb (fun _ => h1) (fun e2 => absurd (e.symm.trans e2) (by cases want <;> decide)) hj hE
theorem xen {ops : Array Oper}{B : List (List Nat)}{rest : List Oper}{acc : List Cert}{env : Env}{nx : Nat}{H : Heap}{C : List Cert → Env → Nat → Heap → Prop}{dst : Option Nat}{op : Op}{t : Nat}{p : String}{a : Array Edge}{j : Nat}{want b : Bool} (d : Nat) (E0 : Env) (hb : look E0 d = some (.f (.v (.bool b)))) (e : b = !want) (h2 : wpd Try.prog tab ops B rest (⟨⟨dst,op,t,p,a,some (j,want)⟩,some undefP,E0,[],[],[],nx,nx,B.getD acc.length []⟩ :: acc) (dropE dst env) nx H C) (hj : (ops[j]?).bind (·.dst) = some d := by kernel_rfl) (hE : cutE ops ⟨dst,op,t,p,a,some (j,want)⟩ env = E0 := by kernel_rfl) : wpd Try.prog tab ops B (⟨dst,op,t,p,a,some (j,want)⟩ :: rest) acc env nx H C := x_i E0 hb (fun e2 => absurd (e2.symm.trans e) (by cases want <;> decide)) (fun _ => h2) hj hE
theorem xe {c : Ctx}{Q : Post}{nt nx0 N : Nat}{ops : Array Oper}{B : List (List Nat)}{env0 : Env}{H0 H' : Heap}{acc : List Cert}{env : Env} (E : Env) (k : R Try.prog c ops [] E N H' Q) (hp : planB nt nx0 N env0 H0 acc.reverse = true := by kernel_rfl) (hE : sel env (E.map Prod.fst) = E := by kernel_rfl) : wpd Try.prog tab ops B [] acc env N H' (fun cs env' N H' => planB nt nx0 N env0 H0 cs = true ∧ R Try.prog c ops [] env' N H' Q) := x_e E k hp hE
end Go.Proofs.Ytlcmbkkimgdnmaa.Pv
namespace Go.Proofs.Ytlcmbkkimgdnmaa
open Go Go.Proofs.Ytlcmbkkimgdnmaa.Pv
structure TWindow where
  space : Int
  virtual : Int
  physical : Int
  count : Int
  deriving DecidableEq,Inhabited
abbrev eWindow (x : TWindow) : FV := .agg [encI x.space,encI x.virtual,encI x.physical,encI x.count]
abbrev cWindow (x : TWindow) : List PV := [pI x.space,pI x.virtual,pI x.physical,pI x.count]
structure TSlot where
  at_ : Int
  len_ : Int
  deriving DecidableEq,Inhabited
abbrev eSlot (x : TSlot) : FV := .agg [encI x.at_,encI x.len_]
structure TTenant where
  unit : Int
  functions : Int
  queue : Int
  windows : List TWindow
  slots : List TSlot
  deriving DecidableEq,Inhabited
abbrev eTenant (x : TTenant) : FV := .agg [encI x.unit,(fun x => FV.v (.int .u32 x)) x.functions,encI x.queue,(encS 4 eWindow) x.windows,(encS 2 eSlot) x.slots]
abbrev cTenant (x : TTenant) : List PV := [pI x.unit,pK .u32 x.functions,pI x.queue,pS 4 false eWindow x.windows,pS 2 false eSlot x.slots]
structure TTape where
  l : List Int
  at_ : Int
  deriving DecidableEq,Inhabited
structure TRequest where
  fn : Int
  at_ : Int
  count : Int
  wAt : Int
  sub : Int
  bits : List Bool
  vals : List UInt16
  and_ : UInt16
  or_ : UInt16
  deriving DecidableEq,Inhabited
abbrev eRequest (x : TRequest) : FV := .agg [encI x.fn,encI x.at_,encI x.count,encI x.wAt,encI x.sub,(encS 1 encBo) x.bits,(encS 1 enc16) x.vals,enc16 x.and_,enc16 x.or_]
abbrev cRequest (x : TRequest) : List PV := [pI x.fn,pI x.at_,pI x.count,pI x.wAt,pI x.sub,pS 1 false encBo x.bits,pS 1 false enc16 x.vals,p16 x.and_,p16 x.or_]
structure TPart where
  request : TRequest
  write : Bool
  deriving DecidableEq,Inhabited
abbrev ePart (x : TPart) : FV := .agg [encI x.request.fn,encI x.request.at_,encI x.request.count,encI x.request.wAt,encI x.request.sub,(encS 1 encBo) x.request.bits,(encS 1 enc16) x.request.vals,enc16 x.request.and_,enc16 x.request.or_,encBo x.write]
abbrev cPart (x : TPart) : List PV := [pI x.request.fn,pI x.request.at_,pI x.request.count,pI x.request.wAt,pI x.request.sub,pS 1 false encBo x.request.bits,pS 1 false enc16 x.request.vals,p16 x.request.and_,p16 x.request.or_,pB x.write]
structure TReply where
  fn : Int
  code : Int
  at_ : Int
  count : Int
  sub : Int
  bits : List Bool
  vals : List UInt16
  and_ : UInt16
  or_ : UInt16
  data : List UInt8
  deriving DecidableEq,Inhabited
abbrev eReply (x : TReply) : FV := .agg [encI x.fn,encI x.code,encI x.at_,encI x.count,encI x.sub,(encS 1 encBo) x.bits,(encS 1 enc16) x.vals,enc16 x.and_,enc16 x.or_,(encS 1 enc8) x.data]
abbrev cReply (x : TReply) : List PV := [pI x.fn,pI x.code,pI x.at_,pI x.count,pI x.sub,pS 1 false encBo x.bits,pS 1 false enc16 x.vals,p16 x.and_,p16 x.or_,pS 1 false enc8 x.data]
structure TTable where
  frame : Int
  tenants : List TTenant
  deriving DecidableEq,Inhabited
abbrev eTable (x : TTable) : FV := .agg [encI x.frame,(encS 5 eTenant) x.tenants]
abbrev cTable (x : TTable) : List PV := [pI x.frame,pS 5 false eTenant x.tenants]
structure TPiece where
  at_ : Int
  physical : Int
  count : Int
  deriving DecidableEq,Inhabited
abbrev ePiece (x : TPiece) : FV := .agg [encI x.at_,encI x.physical,encI x.count]
abbrev cPiece (x : TPiece) : List PV := [pI x.at_,pI x.physical,pI x.count]
structure TSpan where
  at_ : Int
  count : Int
  deriving DecidableEq,Inhabited
abbrev eSpan (x : TSpan) : FV := .agg [encI x.at_,encI x.count]
abbrev cSpan (x : TSpan) : List PV := [pI x.at_,pI x.count]
def times {α : Type} (f : α → α) : Nat → α → α
  | 0,a => a
  | n + 1,a => f (times f n a)
def crcBit (n : UInt16) : UInt16 := if n &&& 1 = 1 then (n >>> UInt16.ofNat 1) ^^^ 0xA001 else n >>> UInt16.ofNat 1
def crcByte (n : UInt16) (c : UInt8) : UInt16 := times crcBit 8 (n ^^^ c.toUInt16)
def crcSum (l : List UInt8) : UInt16 := l.foldl crcByte 0xFFFF
def sealL (l : List UInt8) : List UInt8 := l ++ [(crcSum l).toUInt8,(crcSum l >>> UInt16.ofNat 8).toUInt8]
@[simp] theorem sealL_length (l : List UInt8) : (sealL l).length = l.length + 2 := by simp [sealL]
def within (n lo hi : Int) : Int := if lo ≤ n ∧ n ≤ hi then n else lo + (if n.tmod (hi - lo + 1) < 0 then n.tmod (hi - lo + 1) + hi - lo + 1 else n.tmod (hi - lo + 1))
theorem tmod_between (n : Int) {m : Int} (h : 0 < m) : -m < n.tmod m ∧ n.tmod m < m := by
  have h1 := Int.tmod_lt_of_pos n h
  have h2 := Int.tmod_lt_of_pos (-n) h
  rw [Int.neg_tmod] at h2
  exact ⟨by omega,h1⟩
theorem within_between (n : Int) {lo hi : Int} (h : lo ≤ hi) : lo ≤ within n lo hi ∧ within n lo hi ≤ hi := by
  have := tmod_between n (m := hi - lo + 1) (by omega)
  unfold within
  split
  · assumption
  · split <;> omega
def bsq (i : Nat) : List UInt8 := (List.range i).map fun j => UInt8.ofNat (j * j + 3)
@[simp] theorem bsq_length (i : Nat) : (bsq i).length = i := by simp [bsq]
set_option maxRecDepth 10000
set_option maxHeartbeats 1000000
theorem w_slices_Clip_bool_bool (s : List Bool) (cl_s : Bool)  :
    T Try.prog 40 [pS 1 cl_s encBo s] 0 [] (Ret (pS 1 true encBo s) 0 []) := by
 refine t_fun tabOk (n := 9) (rs := [.tmp 2]) Try.func40 rfl rfl rfl rfl (nb rfl) ?_
 intro c hnt hk
 refine sr (ae hnt rfl rfl (sr (xp hnt 5 [.o 2,.c (pN s.length),.o 1,.c (pN s.length)] [lenC encBo s,lenC encBo s] [(3,pS 1 cl_s encBo s),(5,pN s.length),(7,pN s.length)] ?_ (hc := ⟨lenC_ok _ _,lenC_ok _ _,trivial⟩))))
 refine qo hnt rfl (s_clipM (f := encBo) (l := s) tab_33 rfl tab_4 ⟨rfl,by decide⟩ rfl (bound_some rfl (by omega)) (bound_some rfl (by omega)) ?_)
 exact ae hnt rfl rfl (w_ret fp)
theorem w_slices_Clip_uint16_uint16 (s : List UInt16) (cl_s : Bool)  :
    T Try.prog 41 [pS 1 cl_s enc16 s] 0 [] (Ret (pS 1 true enc16 s) 0 []) := by
 refine t_fun tabOk (n := 9) (rs := [.tmp 2]) Try.func41 rfl rfl rfl rfl (nb rfl) ?_
 intro c hnt hk
 refine sr (ae hnt rfl rfl (sr (xp hnt 5 [.o 2,.c (pN s.length),.o 1,.c (pN s.length)] [lenC enc16 s,lenC enc16 s] [(3,pS 1 cl_s enc16 s),(5,pN s.length),(7,pN s.length)] ?_ (hc := ⟨lenC_ok _ _,lenC_ok _ _,trivial⟩))))
 refine qo hnt rfl (s_clipM (f := enc16) (l := s) tab_34 rfl tab_35 ⟨rfl,by decide⟩ rfl (bound_some rfl (by omega)) (bound_some rfl (by omega)) ?_)
 exact ae hnt rfl rfl (w_ret fp)
theorem w_slices_Clip_part_Part_part_Part (s : List TPart) (cl_s : Bool)  :
    T Try.prog 42 [pS 10 cl_s ePart s] 0 [] (Ret (pS 10 true ePart s) 0 []) := by
 refine t_fun tabOk (n := 9) (rs := [.tmp 2]) Try.func42 rfl rfl rfl rfl (nb rfl) ?_
 intro c hnt hk
 refine sr (ae hnt rfl rfl (sr (xp hnt 5 [.o 2,.c (pN s.length),.o 1,.c (pN s.length)] [lenC ePart s,lenC ePart s] [(3,pS 10 cl_s ePart s),(5,pN s.length),(7,pN s.length)] ?_ (hc := ⟨lenC_ok _ _,lenC_ok _ _,trivial⟩))))
 refine qo hnt rfl (s_clipM (f := ePart) (l := s) tab_45 rfl tab_50 ⟨rfl,by decide⟩ rfl (bound_some rfl (by omega)) (bound_some rfl (by omega)) ?_)
 exact ae hnt rfl rfl (w_ret fp)
theorem w_slices_Clip_window_Piece_window_Piece (s : List TPiece) (cl_s : Bool)  :
    T Try.prog 81 [pS 3 cl_s ePiece s] 0 [] (Ret (pS 3 true ePiece s) 0 []) := by
 refine t_fun tabOk (n := 9) (rs := [.tmp 2]) Try.func81 rfl rfl rfl rfl (nb rfl) ?_
 intro c hnt hk
 refine sr (ae hnt rfl rfl (sr (xp hnt 5 [.o 2,.c (pN s.length),.o 1,.c (pN s.length)] [lenC ePiece s,lenC ePiece s] [(3,pS 3 cl_s ePiece s),(5,pN s.length),(7,pN s.length)] ?_ (hc := ⟨lenC_ok _ _,lenC_ok _ _,trivial⟩))))
 refine qo hnt rfl (s_clipM (f := ePiece) (l := s) tab_79 rfl tab_83 ⟨rfl,by decide⟩ rfl (bound_some rfl (by omega)) (bound_some rfl (by omega)) ?_)
 exact ae hnt rfl rfl (w_ret fp)
theorem w_slices_Clip_span_Span_span_Span (s : List TSpan) (cl_s : Bool)  :
    T Try.prog 100 [pS 2 cl_s eSpan s] 0 [] (Ret (pS 2 true eSpan s) 0 []) := by
 refine t_fun tabOk (n := 9) (rs := [.tmp 2]) Try.func100 rfl rfl rfl rfl (nb rfl) ?_
 intro c hnt hk
 refine sr (ae hnt rfl rfl (sr (xp hnt 5 [.o 2,.c (pN s.length),.o 1,.c (pN s.length)] [lenC eSpan s,lenC eSpan s] [(3,pS 2 cl_s eSpan s),(5,pN s.length),(7,pN s.length)] ?_ (hc := ⟨lenC_ok _ _,lenC_ok _ _,trivial⟩))))
 refine qo hnt rfl (s_clipM (f := eSpan) (l := s) tab_118 rfl tab_120 ⟨rfl,by decide⟩ rfl (bound_some rfl (by omega)) (bound_some rfl (by omega)) ?_)
 exact ae hnt rfl rfl (w_ret fp)
theorem w_slices_Clone_bool_bool (s : List Bool) (cl_s : Bool) (hs : s.length ≤ 140737488355328) :
    T Try.prog 38 [pS 1 cl_s encBo s] 0 [] (Ret (PV.ref 0 0 none) 1 [(0,oB true 1 encBo s)]) := by
 refine t_fun tabOk (n := 8) (rs := [.tmp 2]) Try.func38 rfl rfl rfl rfl (nb rfl) ?_
 intro c hnt hk
 refine sr (ae hnt rfl rfl (w_seq (sr (qm hnt rfl rfl (qo hnt rfl (s_isnil tab_33 rfl rfl (by trivial) (fun bn1 hbn1 => ?_)))))))
 refine re (w_if rfl (fun c1 => ?_) (fun c1 => ?_))
 ·have c1_ := c1
  try simp only [sB] at c1
  have e : s = [] := Classical.byContradiction fun h => by rw [hbn1 (by simp [h])] at c1_; cases c1_
  refine sr (ae hnt rfl rfl (w_adopt (s := 2) (sz := 1) rfl (w_H (H' := [(0,oB true 1 encBo s)]) (congrArg (fun z => ([(0,oB true 1 encBo z)] : Heap)) (show ([] : List Bool) = s by rw [e])) (w_ret (q_then_ret ?_)))))
  exact fin_names (nx1 := 1) (H1 := [(0,oB true 1 encBo s)]) [(0,0)] (ret_tmp rfl ret_nil) rfl (by decide) ⟨⟨_,_,rfl,rfl,rfl,rfl⟩,trivial⟩ (by decide) rfl ⟨rfl,rfl,rfl⟩
 have c1_ := c1
 try simp only [sB] at c1
 refine w_skip (q_then (sr (qo hnt rfl (s_mkM (f := encBo) ([] : List Bool) tab_33 rfl tab_4 ⟨rfl,by decide⟩ (by decide) rfl rfl rfl rfl ?_))))
 refine qm hnt rfl rfl (qo hnt rfl (s_appR0 (f := encBo) (l := ([] : List Bool)) (xs := s) tab_33 rfl tab_4 ⟨rfl,by decide,by decide⟩ (srcM tab_33 rfl (hM_sl (f := encBo) rfl)) rfl rfl (by (simp; omega)) ?_))
 refine qa hnt rfl rfl (r_set [(2,PV.ref 1 0 none)] [(1,oB true 1 encBo s)] 2 ⟨rfl,trivial⟩ rfl rfl (re (w_ret ?_)))
 exact fin_names (nx1 := 1) (H1 := [(0,oB true 1 encBo s)]) [(0,1)] (ret_tmp rfl ret_nil) rfl (by decide) ⟨⟨_,_,rfl,rfl,rfl,rfl⟩,trivial⟩ (by decide) rfl ⟨rfl,rfl,rfl⟩
theorem w_slices_Clone_uint16_uint16 (s : List UInt16) (cl_s : Bool) (hs : s.length * 2 ≤ 140737488355328) :
    T Try.prog 39 [pS 1 cl_s enc16 s] 0 [] (Ret (PV.ref 0 0 none) 1 [(0,oB true 1 enc16 s)]) := by
 refine t_fun tabOk (n := 8) (rs := [.tmp 2]) Try.func39 rfl rfl rfl rfl (nb rfl) ?_
 intro c hnt hk
 refine sr (ae hnt rfl rfl (w_seq (sr (qm hnt rfl rfl (qo hnt rfl (s_isnil tab_34 rfl rfl (by trivial) (fun bn1 hbn1 => ?_)))))))
 refine re (w_if rfl (fun c1 => ?_) (fun c1 => ?_))
 ·have c1_ := c1
  try simp only [sB] at c1
  have e : s = [] := Classical.byContradiction fun h => by rw [hbn1 (by simp [h])] at c1_; cases c1_
  refine sr (ae hnt rfl rfl (w_adopt (s := 2) (sz := 1) rfl (w_H (H' := [(0,oB true 1 enc16 s)]) (congrArg (fun z => ([(0,oB true 1 enc16 z)] : Heap)) (show ([] : List UInt16) = s by rw [e])) (w_ret (q_then_ret ?_)))))
  exact fin_names (nx1 := 1) (H1 := [(0,oB true 1 enc16 s)]) [(0,0)] (ret_tmp rfl ret_nil) rfl (by decide) ⟨⟨_,_,rfl,rfl,rfl,rfl⟩,trivial⟩ (by decide) rfl ⟨rfl,rfl,rfl⟩
 have c1_ := c1
 try simp only [sB] at c1
 refine w_skip (q_then (sr (qo hnt rfl (s_mkM (f := enc16) ([] : List UInt16) tab_34 rfl tab_35 ⟨rfl,by decide⟩ (by decide) rfl rfl rfl rfl ?_))))
 refine qm hnt rfl rfl (qo hnt rfl (s_appR0 (f := enc16) (l := ([] : List UInt16)) (xs := s) tab_34 rfl tab_35 ⟨rfl,by decide,by decide⟩ (srcM tab_34 rfl (hM_sl (f := enc16) rfl)) rfl rfl (by (simp; omega)) ?_))
 refine qa hnt rfl rfl (r_set [(2,PV.ref 1 0 none)] [(1,oB true 1 enc16 s)] 2 ⟨rfl,trivial⟩ rfl rfl (re (w_ret ?_)))
 exact fin_names (nx1 := 1) (H1 := [(0,oB true 1 enc16 s)]) [(0,1)] (ret_tmp rfl ret_nil) rfl (by decide) ⟨⟨_,_,rfl,rfl,rfl,rfl⟩,trivial⟩ (by decide) rfl ⟨rfl,rfl,rfl⟩
theorem w_slices_Equal_bool_bool (s : List Bool) (cl_s : Bool) (m : List Bool) (cl_m : Bool) (hs : s.length ≤ 140737488355328) :
    T Try.prog 86 [pS 1 cl_s encBo s,pS 1 cl_m encBo m] 0 [] (Ret (pB (decide (s = m))) 0 []) := by
 refine t_fun tabOk (n := 26) (rs := [.tmp 4]) Try.func86 rfl rfl rfl rfl (nb rfl) ?_
 intro c hnt hk
 refine sr (ae hnt rfl rfl (w_seq (sr (xp hnt 5 [.o 1,.c (pN s.length),.o 1,.c (pN m.length),.o 1] [lenC encBo s,lenC encBo m] [(10,pB (!decide (((s.length : Nat) : Int) = ((m.length : Nat) : Int))))] ?_ (hc := ⟨lenC_ok _ _,lenC_ok _ _,trivial⟩)))))
 refine re (w_if rfl (fun c1 => ?_) (fun c1 => ?_))
 ·try simp only [sB] at c1
  have hne : s ≠ m := fun e => by subst e; simp at c1
  exact sr (ae hnt rfl rfl (w_le (s := 4) (y := pB (decide (s = m))) rfl (le_of_eq (congrArg pB (show false = (decide (s = m)) by simp [hne]))) (w_ret (q_then_ret fp))))
 try simp only [sB] at c1
 have hlm : s.length = m.length := by omega
 refine w_skip (q_then (w_seq (sr (qm hnt rfl rfl (qo hnt rfl (s_lenM (l := s) tab_33 rfl (hM_sl (f := encBo) rfl) ?_))))))
 refine qm hnt rfl rfl (re (w_block (loop1 (fun (i : Nat) => i ≤ s.length ∧ s.take i = m.take i) (fun (i : Nat) => [(0,pS 1 cl_s encBo s),(1,pS 1 cl_m encBo m),(12,pN s.length),(13,pN i)]) 0 (fun (i : Nat) => []) (fun (i : Nat) => s.length - i) (0) ?_ ⟨[],rfl,⟨⟨_,rfl,rfl,rfl⟩,⟨_,rfl,rfl,rfl⟩,⟨_,rfl,rfl,rfl⟩,⟨_,rfl,rfl,rfl⟩,trivial⟩,trivial,by rw [hk]; decide⟩ ?_)))
 · exact ⟨Nat.zero_le _,by simp⟩
 ·intro i hI
  obtain ⟨hi,ht⟩ := hI
  refine sr (qo hnt rfl (s_lss rfl rfl ?_))
  refine re (w_seq (w_if rfl (fun c2 => ?_) (fun c2 => ?_)))
  ·try simp only [sB] at c2
   refine w_skip (q_then (w_seq (w_block (sr (xp hnt 2 [.o 2] [] [(5,pN i)] ?_)))))
   refine re (w_seq (wdr hnt (xq 2 [.o 2] [] ?_)))
   obtain ⟨e1,he1⟩ := get_of_lt s (i := i) (by omega)
   refine xk [(16,pS 1 cl_s encBo s),(17,pN i)] [] [] [] [] (s_iaM (q := i) (b := e1) (f := encBo) tab_33 rfl tab_4 rfl rfl (by omega) rfl he1 ⟨rfl,rfl,rfl⟩) (xq 3 [.o 3] [] ?_)
   obtain ⟨e2,he2⟩ := get_of_lt m (i := i) (by omega)
   refine xk [(20,pS 1 cl_m encBo m),(21,pN i)] [] [] [] [] (s_iaM (q := i) (b := e2) (f := encBo) tab_33 rfl tab_4 rfl rfl (by omega) rfl he2 ⟨rfl,rfl,rfl⟩) (xq 2 [.o 2] [] (xe [(0,pS 1 cl_s encBo s),(1,pS 1 cl_m encBo m),(12,pN s.length),(13,pN i),(24,pB (!(e1 == e2)))] (re (w_if rfl (fun c3 => ?_) (fun c3 => ?_)))))
   ·try simp only [sB] at c3
    have hne : s ≠ m := fun e => by subst e; rw [he1] at he2; cases he2; simp at c3
    exact sr (ae hnt rfl rfl (w_le (s := 4) (y := pB (decide (s = m))) rfl (le_of_eq (congrArg pB (show false = (decide (s = m)) by simp [hne]))) (w_ret (q_block_ret (q_then_ret (q_then_ret (q_block_ret (q_then_ret fp))))))))
   try simp only [sB] at c3
   have c3 : e1 = e2 := by simpa using c3
   refine w_skip (q_block (q_then (w_R (qo hnt rfl (s_addN (a := i) (b := 1) rfl rfl (by omega) (by omega) (by omega) ?_)))))
   refine qm hnt rfl rfl (re (⟨(i + 1), ?_, ?_,⟨[],rfl,⟨⟨_,rfl,rfl,rfl⟩,⟨_,rfl,rfl,rfl⟩,⟨_,rfl,rfl,rfl⟩,⟨_,rfl,rfl,rfl⟩,trivial⟩,trivial,by rw [hk]; decide⟩⟩))
   ·refine ⟨by omega, ?_⟩
    rw [List.take_add_one,List.take_add_one,he1,he2,ht,c3]
   · omega
  try simp only [sB] at c2
  have h1 : s.take i = s := List.take_of_length_le (by omega)
  have h2 : m.take i = m := List.take_of_length_le (by omega)
  have he : s = m := by rw [← h1,← h2,ht]
  exact w_exit (q_then_exit (q_then_exit (q_block_exit (q_then (sr (ae hnt rfl rfl (w_le (s := 4) (y := pB (decide (s = m))) rfl (le_of_eq (congrArg pB (show true = (decide (s = m)) by simp [he]))) (w_ret fp))))))))
theorem w_slices_Equal_uint16_uint16 (s : List UInt16) (cl_s : Bool) (m : List UInt16) (cl_m : Bool) (hs : s.length ≤ 140737488355328) :
    T Try.prog 87 [pS 1 cl_s enc16 s,pS 1 cl_m enc16 m] 0 [] (Ret (pB (decide (s = m))) 0 []) := by
 refine t_fun tabOk (n := 26) (rs := [.tmp 4]) Try.func87 rfl rfl rfl rfl (nb rfl) ?_
 intro c hnt hk
 refine sr (ae hnt rfl rfl (w_seq (sr (xp hnt 5 [.o 1,.c (pN s.length),.o 1,.c (pN m.length),.o 1] [lenC enc16 s,lenC enc16 m] [(10,pB (!decide (((s.length : Nat) : Int) = ((m.length : Nat) : Int))))] ?_ (hc := ⟨lenC_ok _ _,lenC_ok _ _,trivial⟩)))))
 refine re (w_if rfl (fun c1 => ?_) (fun c1 => ?_))
 ·try simp only [sB] at c1
  have hne : s ≠ m := fun e => by subst e; simp at c1
  exact sr (ae hnt rfl rfl (w_le (s := 4) (y := pB (decide (s = m))) rfl (le_of_eq (congrArg pB (show false = (decide (s = m)) by simp [hne]))) (w_ret (q_then_ret fp))))
 try simp only [sB] at c1
 have hlm : s.length = m.length := by omega
 refine w_skip (q_then (w_seq (sr (qm hnt rfl rfl (qo hnt rfl (s_lenM (l := s) tab_34 rfl (hM_sl (f := enc16) rfl) ?_))))))
 refine qm hnt rfl rfl (re (w_block (loop1 (fun (i : Nat) => i ≤ s.length ∧ s.take i = m.take i) (fun (i : Nat) => [(0,pS 1 cl_s enc16 s),(1,pS 1 cl_m enc16 m),(12,pN s.length),(13,pN i)]) 0 (fun (i : Nat) => []) (fun (i : Nat) => s.length - i) (0) ?_ ⟨[],rfl,⟨⟨_,rfl,rfl,rfl⟩,⟨_,rfl,rfl,rfl⟩,⟨_,rfl,rfl,rfl⟩,⟨_,rfl,rfl,rfl⟩,trivial⟩,trivial,by rw [hk]; decide⟩ ?_)))
 · exact ⟨Nat.zero_le _,by simp⟩
 ·intro i hI
  obtain ⟨hi,ht⟩ := hI
  refine sr (qo hnt rfl (s_lss rfl rfl ?_))
  refine re (w_seq (w_if rfl (fun c2 => ?_) (fun c2 => ?_)))
  ·try simp only [sB] at c2
   refine w_skip (q_then (w_seq (w_block (sr (xp hnt 2 [.o 2] [] [(5,pN i)] ?_)))))
   refine re (w_seq (wdr hnt (xq 2 [.o 2] [] ?_)))
   obtain ⟨e1,he1⟩ := get_of_lt s (i := i) (by omega)
   refine xk [(16,pS 1 cl_s enc16 s),(17,pN i)] [] [] [] [] (s_iaM (q := i) (b := e1) (f := enc16) tab_34 rfl tab_35 rfl rfl (by omega) rfl he1 ⟨rfl,rfl,rfl⟩) (xq 3 [.o 3] [] ?_)
   obtain ⟨e2,he2⟩ := get_of_lt m (i := i) (by omega)
   refine xk [(20,pS 1 cl_m enc16 m),(21,pN i)] [] [] [] [] (s_iaM (q := i) (b := e2) (f := enc16) tab_34 rfl tab_35 rfl rfl (by omega) rfl he2 ⟨rfl,rfl,rfl⟩) (xq 2 [.o 1,.c (pB (!decide (e1 = e2)))] [neC16 e1 e2] ?_ (hc := ⟨neC16_ok _ _,trivial⟩))
   refine xe [(0,pS 1 cl_s enc16 s),(1,pS 1 cl_m enc16 m),(12,pN s.length),(13,pN i),(24,pB (!decide (e1 = e2)))] (re (w_if rfl (fun c3 => ?_) (fun c3 => ?_)))
   ·try simp only [sB] at c3
    have hne : s ≠ m := fun e => by subst e; rw [he1] at he2; cases he2; simp at c3
    exact sr (ae hnt rfl rfl (w_le (s := 4) (y := pB (decide (s = m))) rfl (le_of_eq (congrArg pB (show false = (decide (s = m)) by simp [hne]))) (w_ret (q_block_ret (q_then_ret (q_then_ret (q_block_ret (q_then_ret fp))))))))
   try simp only [sB] at c3
   have c3 : e1 = e2 := by simpa using c3
   refine w_skip (q_block (q_then (w_R (qo hnt rfl (s_addN (a := i) (b := 1) rfl rfl (by omega) (by omega) (by omega) ?_)))))
   refine qm hnt rfl rfl (re (⟨(i + 1), ?_, ?_,⟨[],rfl,⟨⟨_,rfl,rfl,rfl⟩,⟨_,rfl,rfl,rfl⟩,⟨_,rfl,rfl,rfl⟩,⟨_,rfl,rfl,rfl⟩,trivial⟩,trivial,by rw [hk]; decide⟩⟩))
   ·refine ⟨by omega, ?_⟩
    rw [List.take_add_one,List.take_add_one,he1,he2,ht,c3]
   · omega
  try simp only [sB] at c2
  have h1 : s.take i = s := List.take_of_length_le (by omega)
  have h2 : m.take i = m := List.take_of_length_le (by omega)
  have he : s = m := by rw [← h1,← h2,ht]
  exact w_exit (q_then_exit (q_then_exit (q_block_exit (q_then (sr (ae hnt rfl rfl (w_le (s := 4) (y := pB (decide (s = m))) rfl (le_of_eq (congrArg pB (show true = (decide (s = m)) by simp [he]))) (w_ret fp))))))))
theorem w_slices_Equal_byte_byte (s : List UInt8) (cl_s : Bool) (m : List UInt8) (cl_m : Bool) (hs : s.length ≤ 140737488355328) :
    T Try.prog 88 [pS 1 cl_s enc8 s,pS 1 cl_m enc8 m] 0 [] (Ret (pB (decide (s = m))) 0 []) := by
 refine t_fun tabOk (n := 26) (rs := [.tmp 4]) Try.func88 rfl rfl rfl rfl (nb rfl) ?_
 intro c hnt hk
 refine sr (ae hnt rfl rfl (w_seq (sr (xp hnt 5 [.o 1,.c (pN s.length),.o 1,.c (pN m.length),.o 1] [lenC enc8 s,lenC enc8 m] [(10,pB (!decide (((s.length : Nat) : Int) = ((m.length : Nat) : Int))))] ?_ (hc := ⟨lenC_ok _ _,lenC_ok _ _,trivial⟩)))))
 refine re (w_if rfl (fun c1 => ?_) (fun c1 => ?_))
 ·try simp only [sB] at c1
  have hne : s ≠ m := fun e => by subst e; simp at c1
  exact sr (ae hnt rfl rfl (w_le (s := 4) (y := pB (decide (s = m))) rfl (le_of_eq (congrArg pB (show false = (decide (s = m)) by simp [hne]))) (w_ret (q_then_ret fp))))
 try simp only [sB] at c1
 have hlm : s.length = m.length := by omega
 refine w_skip (q_then (w_seq (sr (qm hnt rfl rfl (qo hnt rfl (s_lenM (l := s) tab_60 rfl (hM_sl (f := enc8) rfl) ?_))))))
 refine qm hnt rfl rfl (re (w_block (loop1 (fun (i : Nat) => i ≤ s.length ∧ s.take i = m.take i) (fun (i : Nat) => [(0,pS 1 cl_s enc8 s),(1,pS 1 cl_m enc8 m),(12,pN s.length),(13,pN i)]) 0 (fun (i : Nat) => []) (fun (i : Nat) => s.length - i) (0) ?_ ⟨[],rfl,⟨⟨_,rfl,rfl,rfl⟩,⟨_,rfl,rfl,rfl⟩,⟨_,rfl,rfl,rfl⟩,⟨_,rfl,rfl,rfl⟩,trivial⟩,trivial,by rw [hk]; decide⟩ ?_)))
 · exact ⟨Nat.zero_le _,by simp⟩
 ·intro i hI
  obtain ⟨hi,ht⟩ := hI
  refine sr (qo hnt rfl (s_lss rfl rfl ?_))
  refine re (w_seq (w_if rfl (fun c2 => ?_) (fun c2 => ?_)))
  ·try simp only [sB] at c2
   refine w_skip (q_then (w_seq (w_block (sr (xp hnt 2 [.o 2] [] [(5,pN i)] ?_)))))
   refine re (w_seq (wdr hnt (xq 2 [.o 2] [] ?_)))
   obtain ⟨e1,he1⟩ := get_of_lt s (i := i) (by omega)
   refine xk [(16,pS 1 cl_s enc8 s),(17,pN i)] [] [] [] [] (s_iaM (q := i) (b := e1) (f := enc8) tab_60 rfl tab_5 rfl rfl (by omega) rfl he1 ⟨rfl,rfl,rfl⟩) (xq 3 [.o 3] [] ?_)
   obtain ⟨e2,he2⟩ := get_of_lt m (i := i) (by omega)
   refine xk [(20,pS 1 cl_m enc8 m),(21,pN i)] [] [] [] [] (s_iaM (q := i) (b := e2) (f := enc8) tab_60 rfl tab_5 rfl rfl (by omega) rfl he2 ⟨rfl,rfl,rfl⟩) (xq 2 [.o 1,.c (pB (!decide (e1 = e2)))] [neC8 e1 e2] ?_ (hc := ⟨neC8_ok _ _,trivial⟩))
   refine xe [(0,pS 1 cl_s enc8 s),(1,pS 1 cl_m enc8 m),(12,pN s.length),(13,pN i),(24,pB (!decide (e1 = e2)))] (re (w_if rfl (fun c3 => ?_) (fun c3 => ?_)))
   ·try simp only [sB] at c3
    have hne : s ≠ m := fun e => by subst e; rw [he1] at he2; cases he2; simp at c3
    exact sr (ae hnt rfl rfl (w_le (s := 4) (y := pB (decide (s = m))) rfl (le_of_eq (congrArg pB (show false = (decide (s = m)) by simp [hne]))) (w_ret (q_block_ret (q_then_ret (q_then_ret (q_block_ret (q_then_ret fp))))))))
   try simp only [sB] at c3
   have c3 : e1 = e2 := by simpa using c3
   refine w_skip (q_block (q_then (w_R (qo hnt rfl (s_addN (a := i) (b := 1) rfl rfl (by omega) (by omega) (by omega) ?_)))))
   refine qm hnt rfl rfl (re (⟨(i + 1), ?_, ?_,⟨[],rfl,⟨⟨_,rfl,rfl,rfl⟩,⟨_,rfl,rfl,rfl⟩,⟨_,rfl,rfl,rfl⟩,⟨_,rfl,rfl,rfl⟩,trivial⟩,trivial,by rw [hk]; decide⟩⟩))
   ·refine ⟨by omega, ?_⟩
    rw [List.take_add_one,List.take_add_one,he1,he2,ht,c3]
   · omega
  try simp only [sB] at c2
  have h1 : s.take i = s := List.take_of_length_le (by omega)
  have h2 : m.take i = m := List.take_of_length_le (by omega)
  have he : s = m := by rw [← h1,← h2,ht]
  exact w_exit (q_then_exit (q_then_exit (q_block_exit (q_then (sr (ae hnt rfl rfl (w_le (s := 4) (y := pB (decide (s = m))) rfl (le_of_eq (congrArg pB (show true = (decide (s = m)) by simp [he]))) (w_ret fp))))))))
theorem w_burgagebook_Within (n : Int) (lo : Int) (hi : Int) (h : -4611686018427387904 ≤ lo ∧ lo ≤ hi ∧ hi ≤ 4611686018427387902) :
    T Try.prog 20 [pI n,pI lo,pI hi] 0 [] (Ret (pI (within n lo hi)) 0 []) := by
 refine t_fun tabOk (n := 33) (rs := [.tmp 6]) Try.func20 rfl rfl rfl rfl (nb rfl) ?_
 intro c hnt hk
 refine sr (ae hnt rfl rfl (w_seq (sr (xp hnt 4 [.o 4] [] [(10,pB (decide (lo ≤ n)))] (r_if tabOk hnt rfl rfl rfl (fun g1 => ?_) (fun g1 => ?_))))))
 ·have g1' := g1
  try simp only [sB] at g1'
  refine qm hnt rfl rfl (r_eq (s := 10) (y := pB true) rfl (congrArg pB g1) (xp hnt 3 [.o 3] [] [(14,pB (decide (n ≤ hi)))] (re (w_if rfl (fun c1 => ?_) (fun c1 => ?_)))))
  ·try simp only [sB] at c1
   exact sr (xa hnt 2 [.o 2] [] [(6,pI n)] 0 [] (re (w_le (s := 6) (y := pI (within n lo hi)) rfl (le_of_eq (congrArg pI (show n = (within n lo hi) by (unfold within; repeat' split) <;> omega))) (w_ret (q_then_ret fp)))))
  try simp only [sB] at c1
  refine w_skip (q_then (w_seq ?_))
  have hm := tmod_between n (m := hi - lo + 1) (by omega)
  refine w_R (xp hnt 5 [.o 5] [okI (hi - lo),okI ((hi - lo) + 1)] [(16,pI n),(20,pI ((hi - lo) + 1))] ?_ (hc := ⟨by unfold okI; (omega),by unfold okI; (omega),trivial⟩))
  refine qo hnt rfl (s_rem rfl rfl (by omega) ?_)
  refine ae hnt rfl rfl (w_seq (sr (qm hnt rfl rfl (qo hnt rfl (s_lss rfl rfl ?_)))))
  refine re (w_if rfl (fun c2 => ?_) (fun c2 => ?_))
  ·try simp only [sB] at c2
   refine w_R (xa hnt 7 [.o 7] [okI ((Int.tmod n ((hi - lo) + 1)) + hi),okI (((Int.tmod n ((hi - lo) + 1)) + hi) - lo),okI ((((Int.tmod n ((hi - lo) + 1)) + hi) - lo) + 1)] [(0,pI ((((Int.tmod n ((hi - lo) + 1)) + hi) - lo) + 1)),(1,pI lo)] 0 [] ?_ (hc := ⟨by unfold okI; (omega),by unfold okI; (omega),by unfold okI; (omega),trivial⟩))
   refine re (sr (qm hnt rfl rfl (qm hnt rfl rfl (qo hnt rfl (s_addi (r := lo + ((((Int.tmod n ((hi - lo) + 1)) + hi) - lo) + 1)) rfl rfl rfl (by omega) ?_)))))
   exact ae hnt rfl rfl (w_le (s := 6) (y := pI (within n lo hi)) rfl (le_of_eq (congrArg pI (show (lo + ((((Int.tmod n ((hi - lo) + 1)) + hi) - lo) + 1)) = (within n lo hi) by (unfold within; repeat' split) <;> omega))) (w_ret fp))
  try simp only [sB] at c2
  refine w_skip (q_then (sr (xa hnt 4 [.o 4] [okI (lo + (Int.tmod n ((hi - lo) + 1)))] [(6,pI (lo + (Int.tmod n ((hi - lo) + 1))))] 0 [] ?_ (hc := ⟨by unfold okI; (omega),trivial⟩))))
  exact re (w_le (s := 6) (y := pI (within n lo hi)) rfl (le_of_eq (congrArg pI (show (lo + (Int.tmod n ((hi - lo) + 1))) = (within n lo hi) by (unfold within; repeat' split) <;> omega))) (w_ret fp))
 have g1' := g1
 try simp only [sB] at g1'
 refine r_eq (s := 10) (y := pB false) rfl (congrArg pB g1) (xp hnt 3 [.o 3] [] [(14,pB false)] (re (w_if rfl (fun e => absurd e (by decide)) (fun _ => ?_))))
 refine w_skip (q_then (w_seq ?_))
 have hm := tmod_between n (m := hi - lo + 1) (by omega)
 refine w_R (xp hnt 5 [.o 5] [okI (hi - lo),okI ((hi - lo) + 1)] [(16,pI n),(20,pI ((hi - lo) + 1))] ?_ (hc := ⟨by unfold okI; (omega),by unfold okI; (omega),trivial⟩))
 refine qo hnt rfl (s_rem rfl rfl (by omega) ?_)
 refine ae hnt rfl rfl (w_seq (sr (qm hnt rfl rfl (qo hnt rfl (s_lss rfl rfl ?_)))))
 refine re (w_if rfl (fun c3 => ?_) (fun c3 => ?_))
 ·try simp only [sB] at c3
  refine w_R (xa hnt 7 [.o 7] [okI ((Int.tmod n ((hi - lo) + 1)) + hi),okI (((Int.tmod n ((hi - lo) + 1)) + hi) - lo),okI ((((Int.tmod n ((hi - lo) + 1)) + hi) - lo) + 1)] [(0,pI ((((Int.tmod n ((hi - lo) + 1)) + hi) - lo) + 1)),(1,pI lo)] 0 [] ?_ (hc := ⟨by unfold okI; (omega),by unfold okI; (omega),by unfold okI; (omega),trivial⟩))
  refine re (sr (qm hnt rfl rfl (qm hnt rfl rfl (qo hnt rfl (s_addi (r := lo + ((((Int.tmod n ((hi - lo) + 1)) + hi) - lo) + 1)) rfl rfl rfl (by omega) ?_)))))
  exact ae hnt rfl rfl (w_le (s := 6) (y := pI (within n lo hi)) rfl (le_of_eq (congrArg pI (show (lo + ((((Int.tmod n ((hi - lo) + 1)) + hi) - lo) + 1)) = (within n lo hi) by (unfold within; repeat' split) <;> omega))) (w_ret fp))
 try simp only [sB] at c3
 refine w_skip (q_then (sr (xa hnt 4 [.o 4] [okI (lo + (Int.tmod n ((hi - lo) + 1)))] [(6,pI (lo + (Int.tmod n ((hi - lo) + 1))))] 0 [] ?_ (hc := ⟨by unfold okI; (omega),trivial⟩))))
 exact re (w_le (s := 6) (y := pI (within n lo hi)) rfl (le_of_eq (congrArg pI (show (lo + (Int.tmod n ((hi - lo) + 1))) = (within n lo hi) by (unfold within; repeat' split) <;> omega))) (w_ret fp))
theorem w_burgagebook_Same_uint16 (s : List UInt16) (cl_s : Bool) (m : List UInt16) (cl_m : Bool) (hs : s.length ≤ 140737488355328) :
    T Try.prog 46 [pS 1 cl_s enc16 s,pS 1 cl_m enc16 m] 0 [] (Ret (pB (decide (s = m))) 0 []) := by
 refine t_fun tabOk (n := 26) (rs := [.tmp 4]) Try.func46 rfl rfl rfl rfl (nb rfl) ?_
 intro c hnt hk
 refine sr (ae hnt rfl rfl (w_seq (sr (xp hnt 5 [.o 1,.c (pN s.length),.o 1,.c (pN m.length),.o 1] [lenC enc16 s,lenC enc16 m] [(10,pB (!decide (((s.length : Nat) : Int) = ((m.length : Nat) : Int))))] ?_ (hc := ⟨lenC_ok _ _,lenC_ok _ _,trivial⟩)))))
 refine re (w_if rfl (fun c1 => ?_) (fun c1 => ?_))
 ·try simp only [sB] at c1
  have hne : s ≠ m := fun e => by subst e; simp at c1
  exact sr (ae hnt rfl rfl (w_le (s := 4) (y := pB (decide (s = m))) rfl (le_of_eq (congrArg pB (show false = (decide (s = m)) by simp [hne]))) (w_ret (q_then_ret fp))))
 try simp only [sB] at c1
 have hlm : s.length = m.length := by omega
 refine w_skip (q_then (w_seq (sr (ae hnt rfl rfl (w_block (loop1 (fun (i : Nat) => i ≤ s.length ∧ s.take i = m.take i) (fun (i : Nat) => [(0,pS 1 cl_s enc16 s),(1,pS 1 cl_m enc16 m),(5,pN i)]) 0 (fun (i : Nat) => []) (fun (i : Nat) => s.length - i) (0) ?_ ⟨[],rfl,⟨⟨_,rfl,rfl,rfl⟩,⟨_,rfl,rfl,rfl⟩,⟨_,rfl,rfl,rfl⟩,trivial⟩,trivial,by rw [hk]; decide⟩ ?_))))))
 · exact ⟨Nat.zero_le _,by simp⟩
 ·intro i hI
  obtain ⟨hi,ht⟩ := hI
  refine w_seq (sr (qm hnt rfl rfl (qm hnt rfl rfl (qo hnt rfl (s_lenM (l := s) tab_34 rfl (hM_sl (f := enc16) rfl) ?_)))))
  refine qo hnt rfl (s_lss rfl rfl ?_)
  refine re (w_if rfl (fun c2 => ?_) (fun c2 => ?_))
  ·try simp only [sB] at c2
   refine w_skip (q_then (w_seq (w_block (w_seq (wdr hnt ?_)))))
   refine xq 2 [.o 2] [] ?_
   obtain ⟨e1,he1⟩ := get_of_lt s (i := i) (by omega)
   refine xk [(17,pS 1 cl_s enc16 s),(18,pN i)] [] [] [] [] (s_iaM (q := i) (b := e1) (f := enc16) tab_34 rfl tab_35 rfl rfl (by omega) rfl he1 ⟨rfl,rfl,rfl⟩) (xq 3 [.o 3] [] ?_)
   obtain ⟨e2,he2⟩ := get_of_lt m (i := i) (by omega)
   refine xk [(21,pS 1 cl_m enc16 m),(22,pN i)] [] [] [] [] (s_iaM (q := i) (b := e2) (f := enc16) tab_34 rfl tab_35 rfl rfl (by omega) rfl he2 ⟨rfl,rfl,rfl⟩) (xq 2 [.o 1,.c (pB (!decide (e1 = e2)))] [neC16 e1 e2] ?_ (hc := ⟨neC16_ok _ _,trivial⟩))
   refine xe [(0,pS 1 cl_s enc16 s),(1,pS 1 cl_m enc16 m),(5,pN i),(25,pB (!decide (e1 = e2)))] (re (w_if rfl (fun c3 => ?_) (fun c3 => ?_)))
   ·try simp only [sB] at c3
    have hne : s ≠ m := fun e => by subst e; rw [he1] at he2; cases he2; simp at c3
    exact sr (ae hnt rfl rfl (w_le (s := 4) (y := pB (decide (s = m))) rfl (le_of_eq (congrArg pB (show false = (decide (s = m)) by simp [hne]))) (w_ret (q_block_ret (q_then_ret (q_then_ret (q_block_ret (q_then_ret fp))))))))
   try simp only [sB] at c3
   have c3e : e1 = e2 := by simpa using c3
   refine w_skip (q_block (q_then (w_R (qm hnt rfl rfl (qo hnt rfl (s_addN (a := i) (b := 1) rfl rfl (by omega) (by omega) (by omega) ?_))))))
   refine ae hnt rfl rfl (⟨(i + 1), ?_, ?_,⟨[],rfl,⟨⟨_,rfl,rfl,rfl⟩,⟨_,rfl,rfl,rfl⟩,⟨_,rfl,rfl,rfl⟩,trivial⟩,trivial,by rw [hk]; decide⟩⟩)
   ·refine ⟨by omega, ?_⟩
    rw [List.take_add_one,List.take_add_one,he1,he2,ht,c3e]
   · omega
  try simp only [sB] at c2
  have h1 : s.take i = s := List.take_of_length_le (by omega)
  have h2 : m.take i = m := List.take_of_length_le (by omega)
  have he : s = m := by rw [← h1,← h2,ht]
  exact w_exit (q_then_exit (q_then_exit (q_block_exit (q_then (sr (ae hnt rfl rfl (w_le (s := 4) (y := pB (decide (s = m))) rfl (le_of_eq (congrArg pB (show true = (decide (s = m)) by simp [he]))) (w_ret fp))))))))
def spRight (s : TSpan) (m : Int) : Bool := decide (0 ≤ s.at_ ∧ 1 ≤ s.count ∧ s.at_ ≤ m ∧ s.count ≤ m - s.at_)
abbrev spOk (s : TSpan) : Bool := spRight s 2147483648
theorem spOk_iff (s : TSpan) : spOk s = true ↔ 0 ≤ s.at_ ∧ 1 ≤ s.count ∧ s.at_ ≤ 2147483648 ∧ s.count ≤ 2147483648 - s.at_ := by simp [spRight]
def meetOk (a b : TSpan) : Bool := spOk a && spOk b && decide (max a.at_ b.at_ < min (a.at_ + a.count) (b.at_ + b.count))
def meetV (a b : TSpan) : TSpan := if meetOk a b then ⟨max a.at_ b.at_,min (a.at_ + a.count) (b.at_ + b.count) - max a.at_ b.at_⟩ else ⟨0,0⟩
def spIn (a b : TSpan) : Bool := meetOk a b && decide (meetV a b = a)
theorem spEq (a b : TSpan) : (decide (a.at_ = b.at_) && (decide (a.count = b.count) && true)) = decide (a = b) := by
  cases a; cases b; simp [TSpan.mk.injEq]
def idxAt (l : List TSpan) (v : Int) : Option Nat := l.findIdx? fun x => decide (x.at_ ≤ v) && decide (v < x.at_ + x.count)
abbrev idxI : Option Nat → Int
  | some i => i
  | none => -1
theorem find_step {α : Type}{p : α → Bool}{l : List α}{i : Nat}{e : α} (h : ∀ j x,j < i → l[j]? = some x → p x = false) (he : l[i]? = some e) (hp : p e = true) : l.findIdx? p = some i := by
  obtain ⟨hi,rfl⟩ := List.getElem?_eq_some_iff.1 he
  rw [List.findIdx?_eq_some_iff_getElem]
  exact ⟨hi,hp,fun j hj => by have := h j l[j] hj (by simp [show j < l.length by omega]); simp [this]⟩
theorem find_none {α : Type}{p : α → Bool}{l : List α} (h : ∀ j x,j < l.length → l[j]? = some x → p x = false) : l.findIdx? p = none := by
  rw [List.findIdx?_eq_none_iff]
  intro x hx
  obtain ⟨j,hj⟩ := List.getElem?_of_mem hx
  exact h j x (List.getElem?_eq_some_iff.1 hj).1 hj
theorem contains_idx (s : List TSpan) : decide (0 ≤ idxI (s.findIdx? fun x => !(spOk x))) = decide (∃ x ∈ s,spOk x = false) := by
  apply decide_eq_decide.2
  cases h : s.findIdx? fun x => !(spOk x) with
  | none =>
    rw [List.findIdx?_eq_none_iff] at h
    constructor
    · intro hc; simp [idxI] at hc
    · rintro ⟨x,hx,hf⟩
      have := h x hx
      simp [hf] at this
  | some i =>
    rw [List.findIdx?_eq_some_iff_getElem] at h
    obtain ⟨hi,hp,_⟩ := h
    constructor
    · intro _; exact ⟨s[i],List.getElem_mem hi,by simpa using hp⟩
    · intro _; simp [idxI]
theorem idx_some {l : List TSpan}{v : Int} (h : ¬ idxI (idxAt l v) < 0) : ∃ i e,idxAt l v = some i ∧ idxI (idxAt l v) = ((i : Nat) : Int) ∧ l[i]? = some e ∧ e.at_ ≤ v ∧ v < e.at_ + e.count := by
  cases hx : idxAt l v with
  | none => rw [hx] at h; simp [idxI] at h
  | some i =>
    have h2 := hx
    unfold idxAt at h2
    rw [List.findIdx?_eq_some_iff_getElem] at h2
    obtain ⟨hi,hp,_⟩ := h2
    simp only [Bool.and_eq_true,decide_eq_true_eq] at hp
    exact ⟨i,l[i],rfl,rfl,by simp [hi],hp.1,hp.2⟩
theorem idx_none {l : List TSpan}{v : Int} (h : idxI (idxAt l v) < 0) : idxAt l v = none := by
  cases hx : idxAt l v with
  | none => rfl
  | some i => rw [hx] at h; simp [idxI] at h; omega
abbrev sp0 : TSpan := ⟨0,0⟩
def covGo (l : List TSpan) (e v : Int) : Option (List TSpan) :=
  if v < e then
    match idxAt l v with
    | none => none
    | some i => if h : v < min ((l.getD i sp0).at_ + (l.getD i sp0).count) e then (covGo l e (min ((l.getD i sp0).at_ + (l.getD i sp0).count) e)).map (⟨v,min ((l.getD i sp0).at_ + (l.getD i sp0).count) e - v⟩ :: ·) else none
  else some []
termination_by (e - v).toNat
decreasing_by omega
theorem covGo_end {l : List TSpan}{e v : Int} (h : ¬ v < e) : covGo l e v = some [] := by rw [covGo,if_neg h]
theorem covGo_none {l : List TSpan}{e v : Int} (h : v < e) (hi : idxAt l v = none) : covGo l e v = none := by rw [covGo,if_pos h,hi]
theorem covGo_step {l : List TSpan}{e v : Int} (h : v < e) {i : Nat}{x : TSpan} (hi : idxAt l v = some i) (hx : l[i]? = some x) (hv : v < x.at_ + x.count) :
    covGo l e v = (covGo l e (min (x.at_ + x.count) e)).map (⟨v,min (x.at_ + x.count) e - v⟩ :: ·) := by
  have hg : l.getD i sp0 = x := by simp [List.getD_eq_getElem?_getD,hx]
  rw [covGo,if_pos h,hi]
  simp only [hg]
  rw [dif_pos (by omega)]
def coverL (l : List TSpan) (s : TSpan) : Option (List TSpan) := if spOk s = true ∧ ∀ x ∈ l,spOk x = true then covGo l (s.at_ + s.count) s.at_ else none
def coverV (l : List TSpan) (s : TSpan) : List TSpan := (coverL l s).getD []
def coverOk (l : List TSpan) (s : TSpan) : Bool := (coverL l s).isSome
theorem map_snoc {o : Option (List TSpan)}{os : List TSpan}{p : TSpan} : (o.map (p :: ·)).map (os ++ ·) = o.map ((os ++ [p]) ++ ·) := by cases o <;> simp
theorem meet_at {x s : TSpan} (hx : spOk x = true) (hs : spOk s = true) : (meetOk x s && decide ((meetV x s).at_ = s.at_)) = (decide (x.at_ ≤ s.at_) && decide (s.at_ < x.at_ + x.count)) := by
  have h1 := (spOk_iff x).1 hx
  have h2 := (spOk_iff s).1 hs
  unfold meetV
  by_cases hm : meetOk x s = true
  · rw [if_pos hm,hm]
    simp only [meetOk,hx,hs,Bool.true_and,decide_eq_true_eq] at hm
    simp only [Bool.true_and]
    rw [← Bool.decide_and]
    apply decide_eq_decide.2
    omega
  · have hm' : meetOk x s = false := by simpa using hm
    rw [hm']
    simp only [meetOk,hx,hs,Bool.true_and,decide_eq_true_eq] at hm
    symm
    rw [Bool.false_and,← Bool.decide_and]
    apply decide_eq_false
    omega
theorem meet_piece {x s : TSpan} (hx : spOk x = true) (hs : spOk s = true) (h : (meetOk x s && decide ((meetV x s).at_ = s.at_)) = true) : meetV x s = ⟨s.at_,min (x.at_ + x.count) (s.at_ + s.count) - s.at_⟩ := by
  simp only [Bool.and_eq_true,decide_eq_true_eq] at h
  have hm := h.1
  have ha := h.2
  unfold meetV at ha ⊢
  rw [if_pos hm] at ha ⊢
  simp only at ha
  rw [ha]
theorem spIn_iff (a b : TSpan) : spIn a b = true ↔ (spOk a = true ∧ spOk b = true ∧ b.at_ ≤ a.at_ ∧ a.at_ + a.count ≤ b.at_ + b.count) := by
  unfold spIn meetV
  cases ha : spOk a with
  | false => simp [meetOk,ha]
  | true =>
    cases hb : spOk b with
    | false => simp [meetOk,hb]
    | true =>
      have h1 := (spOk_iff a).1 ha
      have h2 := (spOk_iff b).1 hb
      obtain ⟨p,q⟩ := a
      obtain ⟨r,t⟩ := b
      simp only at h1 h2
      simp only [meetOk,ha,hb,Bool.true_and,Bool.and_eq_true,decide_eq_true_eq]
      by_cases hm : max p r < min (p + q) (r + t)
      · simp only [hm,if_true,TSpan.mk.injEq,true_and]
        omega
      · constructor
        · intro h; exact absurd h.1 hm
        · intro h
          obtain ⟨h3,h4⟩ : r ≤ p ∧ p + q ≤ r + t := by simpa using h
          exact absurd (by omega) hm
theorem meetOk_iff (a b : TSpan) : meetOk a b = true ↔ (spOk a = true ∧ spOk b = true ∧ max a.at_ b.at_ < min (a.at_ + a.count) (b.at_ + b.count)) := by
  simp only [meetOk,Bool.and_eq_true,decide_eq_true_eq,and_assoc]
theorem covGo_len (l : List TSpan) (e : Int) : ∀ (n : Nat) (v : Int) (os : List TSpan),(e - v).toNat ≤ n → covGo l e v = some os → (os.length : Int) ≤ (e - v).toNat
  | n,v,os,hn,h => by
    rw [covGo] at h
    split at h
    · rename_i hv
      split at h
      · cases h
      · rename_i i hi
        split at h
        · rename_i hlt
          simp only [Option.map_eq_some_iff] at h
          obtain ⟨t,h1,rfl⟩ := h
          match n,hn with
          | 0,hn => omega
          | n + 1,hn =>
            have := covGo_len l e n _ t (by omega) h1
            simp only [List.length_cons]
            omega
        · cases h
    · cases h; simp; omega
theorem coverV_length (l : List TSpan) (s : TSpan) : (coverV l s).length ≤ 2147483648 := by
  unfold coverV coverL
  split
  · rename_i h
    have h1 := (spOk_iff s).1 h.1
    cases hc : covGo l (s.at_ + s.count) s.at_ with
    | none => simp
    | some os =>
      have := covGo_len l _ _ _ os (Nat.le_refl _) hc
      simp only [Option.getD_some]
      omega
  · simp
theorem w_span_Right (s : TSpan) (m : Int) (hm : m ≤ 9223372036854775807) :
    T Try.prog 104 [PV.f (eSpan s),pI m] 0 [] (Ret (pB (spRight s m)) 0 []) := by
 refine t_fun tabOk (n := 28) (rs := [.tmp 4]) Try.func104 rfl rfl rfl rfl (nb rfl) ?_
 intro c hnt hk
 refine sr (qo hnt rfl (s_box rfl rfl ?_))
 refine qa hnt rfl rfl (r_set [(1,pI m),(2,PV.ptr 0 0)] [(0,.obj (cSpan s))] 1 ⟨rfl,rfl,trivial⟩ rfl rfl (re (sr (xp hnt 4 [.o 4] [] [(8,pB (decide (0 ≤ s.at_)))] (r_if tabOk hnt rfl rfl rfl (fun g1 => ?_) (fun g1 => ?_))))))
 ·have g1' := g1
  try simp only [sB] at g1'
  refine qo hnt rfl (s_fa_ptr tab_120 rfl rfl tab_3 (by decide) rfl ?_)
  refine r_eq (s := 8) (y := pB true) rfl (congrArg pB g1) (xp hnt 4 [.o 4] [] [(13,pB (decide (1 ≤ s.count)))] (r_if tabOk hnt rfl rfl rfl (fun g2 => ?_) (fun g2 => ?_)))
  ·have g2' := g2
   try simp only [sB] at g2'
   refine qo hnt rfl (s_fa_ptr tab_120 rfl rfl tab_3 (by decide) rfl ?_)
   refine r_eq (s := 13) (y := pB true) rfl (congrArg pB g2) (xp hnt 5 [.o 5] [] [(19,pB (decide (s.at_ ≤ m)))] (r_if tabOk hnt rfl rfl rfl (fun g3 => ?_) (fun g3 => ?_)))
   ·have g3' := g3
    try simp only [sB] at g3'
    refine qo hnt rfl (s_fa_ptr tab_120 rfl rfl tab_3 (by decide) rfl ?_)
    refine r_eq (s := 19) (y := pB true) rfl (congrArg pB g3) (xp hnt 8 [.o 8] [okI (m - s.at_)] [(4,pB (decide (s.count ≤ m - s.at_)))] ?_ (hc := ⟨by unfold okI; (omega),trivial⟩))
    exact re (w_le (s := 4) (y := pB (spRight s m)) rfl (le_of_eq (congrArg pB (show (decide (s.count ≤ m - s.at_)) = (spRight s m) by unfold spRight; (apply decide_eq_decide.2; omega)))) (w_ret fp))
   have g3' := g3
   try simp only [sB] at g3'
   exact r_eq (s := 19) (y := pB false) rfl (congrArg pB g3) (xp hnt 8 [.o 8] [] [(4,pB false)] (re (w_le (s := 4) (y := pB (spRight s m)) rfl (le_of_eq (congrArg pB (show false = (spRight s m) by unfold spRight; (symm; apply decide_eq_false; omega)))) (w_ret fp))))
  have g2' := g2
  try simp only [sB] at g2'
  exact r_eq (s := 13) (y := pB false) rfl (congrArg pB g2) (xp hnt 14 [.o 14] [] [(4,pB false)] (re (w_le (s := 4) (y := pB (spRight s m)) rfl (le_of_eq (congrArg pB (show false = (spRight s m) by unfold spRight; (symm; apply decide_eq_false; omega)))) (w_ret fp))))
 have g1' := g1
 try simp only [sB] at g1'
 exact r_eq (s := 8) (y := pB false) rfl (congrArg pB g1) (xp hnt 19 [.o 19] [] [(4,pB false)] (re (w_le (s := 4) (y := pB (spRight s m)) rfl (le_of_eq (congrArg pB (show false = (spRight s m) by unfold spRight; (symm; apply decide_eq_false; omega)))) (w_ret fp))))
theorem w_burgageref7_Right (s : TSpan) (m : Int) (hm : m ≤ 9223372036854775807) :
    T Try.prog 102 [PV.f (eSpan s),pI m] 0 [] (Ret (pB (spRight s m)) 0 []) := by
 refine t_fun tabOk (n := 28) (rs := [.tmp 4]) Try.func102 rfl rfl rfl rfl (nb rfl) ?_
 intro c hnt hk
 refine sr (qo hnt rfl (s_box rfl rfl ?_))
 refine qa hnt rfl rfl (r_set [(1,pI m),(2,PV.ptr 0 0)] [(0,.obj (cSpan s))] 1 ⟨rfl,rfl,trivial⟩ rfl rfl (re (sr (xp hnt 4 [.o 4] [] [(8,pB (decide (0 ≤ s.at_)))] (r_if tabOk hnt rfl rfl rfl (fun g1 => ?_) (fun g1 => ?_))))))
 ·have g1' := g1
  try simp only [sB] at g1'
  refine qo hnt rfl (s_fa_ptr tab_133 rfl rfl tab_3 (by decide) rfl ?_)
  refine r_eq (s := 8) (y := pB true) rfl (congrArg pB g1) (xp hnt 4 [.o 4] [] [(13,pB (decide (1 ≤ s.count)))] (r_if tabOk hnt rfl rfl rfl (fun g2 => ?_) (fun g2 => ?_)))
  ·have g2' := g2
   try simp only [sB] at g2'
   refine qo hnt rfl (s_fa_ptr tab_133 rfl rfl tab_3 (by decide) rfl ?_)
   refine r_eq (s := 13) (y := pB true) rfl (congrArg pB g2) (xp hnt 5 [.o 5] [] [(19,pB (decide (s.at_ ≤ m)))] (r_if tabOk hnt rfl rfl rfl (fun g3 => ?_) (fun g3 => ?_)))
   ·have g3' := g3
    try simp only [sB] at g3'
    refine qo hnt rfl (s_fa_ptr tab_133 rfl rfl tab_3 (by decide) rfl ?_)
    refine r_eq (s := 19) (y := pB true) rfl (congrArg pB g3) (xp hnt 8 [.o 8] [okI (m - s.at_)] [(4,pB (decide (s.count ≤ m - s.at_)))] ?_ (hc := ⟨by unfold okI; (omega),trivial⟩))
    exact re (w_le (s := 4) (y := pB (spRight s m)) rfl (le_of_eq (congrArg pB (show (decide (s.count ≤ m - s.at_)) = (spRight s m) by unfold spRight; (apply decide_eq_decide.2; omega)))) (w_ret fp))
   have g3' := g3
   try simp only [sB] at g3'
   exact r_eq (s := 19) (y := pB false) rfl (congrArg pB g3) (xp hnt 8 [.o 8] [] [(4,pB false)] (re (w_le (s := 4) (y := pB (spRight s m)) rfl (le_of_eq (congrArg pB (show false = (spRight s m) by unfold spRight; (symm; apply decide_eq_false; omega)))) (w_ret fp))))
  have g2' := g2
  try simp only [sB] at g2'
  exact r_eq (s := 13) (y := pB false) rfl (congrArg pB g2) (xp hnt 14 [.o 14] [] [(4,pB false)] (re (w_le (s := 4) (y := pB (spRight s m)) rfl (le_of_eq (congrArg pB (show false = (spRight s m) by unfold spRight; (symm; apply decide_eq_false; omega)))) (w_ret fp))))
 have g1' := g1
 try simp only [sB] at g1'
 exact r_eq (s := 8) (y := pB false) rfl (congrArg pB g1) (xp hnt 19 [.o 19] [] [(4,pB false)] (re (w_le (s := 4) (y := pB (spRight s m)) rfl (le_of_eq (congrArg pB (show false = (spRight s m) by unfold spRight; (symm; apply decide_eq_false; omega)))) (w_ret fp))))
theorem w_span_right (s : TSpan)  :
    T Try.prog 95 [PV.f (eSpan s)] 0 [] (Ret (pB (spOk s)) 0 []) := by
 refine t_fun tabOk (n := 5) (rs := [.tmp 2]) Try.func95 rfl rfl rfl rfl (nb rfl) ?_
 intro c hnt hk
 refine sr (qo hnt rfl (s_box rfl rfl ?_))
 refine qa hnt rfl rfl (r_set [(1,PV.ptr 0 0)] [(0,.obj (cSpan s))] 1 ⟨rfl,trivial⟩ rfl rfl (re (sr (xp hnt 1 [.o 1] [] [(3,PV.f (eSpan s))] (qo hnt rfl (s_callF rfl rfl rfl (w_span_Right s 2147483648 (by omega)) rfl ?_))))))
 exact ae hnt rfl rfl (w_le (s := 2) (y := pB (spOk s)) rfl (le_of_eq (congrArg pB (show (spRight s 2147483648) = (spOk s) by simp [*]))) (w_ret fp))
theorem w_span_Span_end (s : TSpan) (hs : spOk s = true) :
    T Try.prog 98 [PV.f (eSpan s)] 0 [] (Ret (pI (s.at_ + s.count)) 0 []) := by
 refine t_fun tabOk (n := 8) (rs := [.tmp 2]) Try.func98 rfl rfl rfl rfl (nb rfl) ?_
 intro c hnt hk
 have hs2 := (spOk_iff s).1 hs
 refine sr (qo hnt rfl (s_box rfl rfl ?_))
 refine qa hnt rfl rfl (r_set [(1,PV.ptr 0 0)] [(0,.obj (cSpan s))] 1 ⟨rfl,trivial⟩ rfl rfl (re (sr (xp hnt 6 [.o 6] [okI (s.at_ + s.count)] [(2,pI (s.at_ + s.count))] ?_ (hc := ⟨by unfold okI; (omega),trivial⟩)))))
 exact re (w_ret fp)
theorem w_span_Meet (a : TSpan) (b : TSpan)  :
    T Try.prog 101 [PV.f (eSpan a),PV.f (eSpan b)] 0 [] (Ret (PV.tup [PV.f (eSpan (meetV a b)),pB (meetOk a b)]) 0 []) := by
 refine t_fun tabOk (n := 36) (rs := [.cell 4 120,.tmp 5]) Try.func101 rfl rfl rfl rfl (nb rfl) ?_
 intro c hnt hk
 refine sr (qo hnt rfl (s_box rfl rfl ?_))
 refine qo hnt rfl (s_box rfl rfl ?_)
 refine qo hnt rfl (s_alloc tab_120 ?_)
 refine qa hnt rfl rfl (r_set [(2,PV.ptr 0 0),(3,PV.ptr 1 0),(4,PV.ptr 2 0)] [(2,.obj [pI 0,pI 0]),(1,.obj (cSpan b)),(0,.obj (cSpan a))] 3 ⟨rfl,rfl,rfl,trivial⟩ rfl rfl (re (sr (xp hnt 4 [.o 4] [] [(9,pI a.at_),(11,pI b.at_)] (qo hnt rfl (s_maxI rfl ?_))))))
 refine qa hnt rfl rfl (ae hnt rfl rfl (w_seq (sr (xp hnt 1 [.o 1] [] [(13,PV.f (eSpan a))] (qo hnt rfl (s_callF rfl rfl rfl (w_span_right a) rfl ?_))))))
 refine xp hnt 2 [.o 2] [] [(16,pB (!(spOk a)))] (r_if tabOk hnt rfl rfl rfl (fun g1 => ?_) (fun g1 => ?_))
 ·have g1' := g1
  try simp only [sB] at g1'
  have ea : spOk a = true := by simpa using g1
  have ha := (spOk_iff a).1 ea
  refine qo hnt rfl (s_load_ptr tab_120 rfl rfl rfl (nb rfl) ?_)
  refine r_eq (s := 16) (y := pB false) rfl (congrArg pB g1) (ry hnt rfl rfl rfl rfl (qo hnt rfl (s_callF rfl rfl rfl (w_span_right b) rfl ?_)))
  refine xp hnt 2 [.o 2] [] [(20,pB (!(spOk b)))] (re (w_if rfl (fun c1 => ?_) (fun c1 => ?_)))
  ·try simp only [sB] at c1
   have eb : spOk b = false := by simpa using c1
   have em : meetOk a b = false := by simp [meetOk,eb]
   refine sr (xm hnt 3 [.o 3] [] [(5,pB false)] 3 [(2,.obj [pI 0,pI 0]),(1,.obj (cSpan b)),(0,.obj (cSpan a))] (re (w_leO (n := 2) (ds := cSpan (meetV a b)) rfl ⟨le_of_eq (congrArg pI (show 0 = ((meetV a b).at_) by simp [em,meetV])),le_of_eq (congrArg pI (show 0 = ((meetV a b).count) by simp [em,meetV])),trivial⟩ (w_le (s := 5) (y := pB (meetOk a b)) rfl (le_of_eq (congrArg pB (show false = (meetOk a b) by simp [em,meetV]))) (w_ret ?_)))))
   exact q_then_ret fp
  try simp only [sB] at c1
  have eb : spOk b = true := by simpa using c1
  have hb := (spOk_iff b).1 eb
  refine w_skip (q_then (w_seq (w_seq (wdr hnt (xq 4 [.o 1,.c (pI (a.at_ + a.count)),.o 1,.c (pI (b.at_ + b.count))] [T Try.prog 98 [PV.f (eSpan a)] 0 [] (Ret (pI (a.at_ + a.count)) 0 []),T Try.prog 98 [PV.f (eSpan b)] 0 [] (Ret (pI (b.at_ + b.count)) 0 [])] ?_ (hc := ⟨(w_span_Span_end a (by omega)),(w_span_Span_end b (by omega)),trivial⟩))))))
  refine xk [(23,pI (a.at_ + a.count)),(25,pI (b.at_ + b.count))] [] [] [] [(2,.obj [pI 0,pI 0]),(1,.obj (cSpan b)),(0,.obj (cSpan a))] (s_minI rfl ⟨rfl,rfl,rfl⟩) (xq 1 [.o 1] [] (xe [(4,PV.ptr 2 0),(6,pI (max a.at_ b.at_)),(7,pI (min (a.at_ + a.count) (b.at_ + b.count)))] (re (sr (qm hnt rfl rfl ?_)))))
  refine qm hnt rfl rfl (qo hnt rfl (s_geq rfl rfl ?_))
  refine re (w_if rfl (fun c2 => ?_) (fun c2 => ?_))
  ·try simp only [sB] at c2
   have em : meetOk a b = false := by simp only [meetOk,ea,eb,Bool.true_and]; apply decide_eq_false; omega
   refine sr (xm hnt 3 [.o 3] [] [(5,pB false)] 3 [(2,.obj [pI 0,pI 0]),(1,.obj (cSpan b)),(0,.obj (cSpan a))] (re (w_leO (n := 2) (ds := cSpan (meetV a b)) rfl ⟨le_of_eq (congrArg pI (show 0 = ((meetV a b).at_) by simp [em,meetV])),le_of_eq (congrArg pI (show 0 = ((meetV a b).count) by simp [em,meetV])),trivial⟩ (w_le (s := 5) (y := pB (meetOk a b)) rfl (le_of_eq (congrArg pB (show false = (meetOk a b) by simp [em,meetV]))) (w_ret ?_)))))
   exact q_then_ret fp
  try simp only [sB] at c2
  have em : meetOk a b = true := by simp only [meetOk,ea,eb,Bool.true_and]; apply decide_eq_true; omega
  refine w_skip (q_then (sr (xm hnt 7 [.o 7] [okI ((min (a.at_ + a.count) (b.at_ + b.count)) - (max a.at_ b.at_))] [(5,pB true)] 3 [(2,.obj [pI (max a.at_ b.at_),pI ((min (a.at_ + a.count) (b.at_ + b.count)) - (max a.at_ b.at_))]),(1,.obj (cSpan b)),(0,.obj (cSpan a))] ?_ (hc := ⟨by unfold okI; (omega),trivial⟩))))
  exact re (w_leO (n := 2) (ds := cSpan (meetV a b)) rfl ⟨le_of_eq (congrArg pI (show (max a.at_ b.at_) = ((meetV a b).at_) by simp [em,meetV])),le_of_eq (congrArg pI (show ((min (a.at_ + a.count) (b.at_ + b.count)) - (max a.at_ b.at_)) = ((meetV a b).count) by simp [em,meetV])),trivial⟩ (w_le (s := 5) (y := pB (meetOk a b)) rfl (le_of_eq (congrArg pB (show true = (meetOk a b) by simp [em,meetV]))) (w_ret fp)))
 have g1' := g1
 try simp only [sB] at g1'
 have ea : spOk a = false := by simpa using g1
 have em : meetOk a b = false := by simp [meetOk,ea]
 refine r_eq (s := 16) (y := pB true) rfl (congrArg pB g1) (xp hnt 3 [.o 3] [] [(20,pB true)] (re (w_if rfl (fun _ => ?_) (fun e => absurd e (by decide)))))
 refine sr (xm hnt 3 [.o 3] [] [(5,pB false)] 3 [(2,.obj [pI 0,pI 0]),(1,.obj (cSpan b)),(0,.obj (cSpan a))] (re (w_leO (n := 2) (ds := cSpan (meetV a b)) rfl ⟨le_of_eq (congrArg pI (show 0 = ((meetV a b).at_) by simp [em,meetV])),le_of_eq (congrArg pI (show 0 = ((meetV a b).count) by simp [em,meetV])),trivial⟩ (w_le (s := 5) (y := pB (meetOk a b)) rfl (le_of_eq (congrArg pB (show false = (meetOk a b) by simp [em,meetV]))) (w_ret ?_)))))
 exact q_then_ret fp
theorem w_burgageref7_Meet (a : TSpan) (b : TSpan)  :
    T Try.prog 103 [PV.f (eSpan a),PV.f (eSpan b)] 0 [] (Ret (PV.tup [PV.f (eSpan (meetV a b)),pB (meetOk a b)]) 0 []) := by
 refine t_fun tabOk (n := 42) (rs := [.cell 4 133,.tmp 5]) Try.func103 rfl rfl rfl rfl (nb rfl) ?_
 intro c hnt hk
 refine sr (qo hnt rfl (s_box rfl rfl ?_))
 refine qo hnt rfl (s_box rfl rfl ?_)
 refine qo hnt rfl (s_alloc tab_133 ?_)
 refine qa hnt rfl rfl (r_set [(2,PV.ptr 0 0),(3,PV.ptr 1 0),(4,PV.ptr 2 0)] [(2,.obj [pI 0,pI 0]),(1,.obj (cSpan b)),(0,.obj (cSpan a))] 3 ⟨rfl,rfl,rfl,trivial⟩ rfl rfl (re (w_seq (sr (xp hnt 1 [.o 1] [] [(8,PV.f (eSpan a))] ?_)))))
 refine qo hnt rfl (s_callF rfl rfl rfl (w_burgageref7_Right a 2147483648 (by omega)) rfl ?_)
 refine qo hnt rfl (s_not rfl ?_)
 refine qm hnt rfl rfl (r_if tabOk hnt rfl rfl rfl (fun g1 => ?_) (fun g1 => ?_))
 ·have g1' := g1
  try simp only [sB] at g1'
  have ea : spOk a = true := by simpa using g1
  have ha := (spOk_iff a).1 ea
  refine qo hnt rfl (s_load_ptr tab_133 rfl rfl rfl (nb rfl) ?_)
  refine r_eq (s := 11) (y := pB false) rfl (congrArg pB g1) (ry hnt rfl rfl rfl rfl (qo hnt rfl (s_callF rfl rfl rfl (w_burgageref7_Right b 2147483648 (by omega)) rfl ?_)))
  refine xp hnt 2 [.o 2] [] [(15,pB (!(spRight b 2147483648)))] (re (w_if rfl (fun c1 => ?_) (fun c1 => ?_)))
  ·try simp only [sB] at c1
   have eb : spOk b = false := by simpa using c1
   have em : meetOk a b = false := by simp [meetOk,eb]
   refine sr (xm hnt 3 [.o 3] [] [(5,pB false)] 3 [(2,.obj [pI 0,pI 0]),(1,.obj (cSpan b)),(0,.obj (cSpan a))] (re (w_leO (n := 2) (ds := cSpan (meetV a b)) rfl ⟨le_of_eq (congrArg pI (show 0 = ((meetV a b).at_) by simp [em,meetV])),le_of_eq (congrArg pI (show 0 = ((meetV a b).count) by simp [em,meetV])),trivial⟩ (w_le (s := 5) (y := pB (meetOk a b)) rfl (le_of_eq (congrArg pB (show false = (meetOk a b) by simp [em,meetV]))) (w_ret ?_)))))
   exact q_then_ret fp
  try simp only [sB] at c1
  have eb : spOk b = true := by simpa using c1
  have hb := (spOk_iff b).1 eb
  refine w_skip (q_then (w_seq (wdr hnt (xq 4 [.o 4] [] (xk [(18,pI a.at_),(20,pI b.at_)] [] [] [] [(2,.obj [pI 0,pI 0]),(1,.obj (cSpan b)),(0,.obj (cSpan a))] (s_maxI rfl ⟨rfl,rfl,rfl⟩) ?_)))))
  refine xq 10 [.o 10] [okI (a.at_ + a.count),okI (b.at_ + b.count)] ?_ (hc := ⟨by unfold okI; (omega),by unfold okI; (omega),trivial⟩)
  refine xk [(26,pI (a.at_ + a.count)),(31,pI (b.at_ + b.count))] [] [] [] [(2,.obj [pI 0,pI 0]),(1,.obj (cSpan b)),(0,.obj (cSpan a))] (s_minI rfl ⟨rfl,rfl,rfl⟩) (xq 2 [.o 2] [] (xe [(4,PV.ptr 2 0),(6,pI (max a.at_ b.at_)),(7,pI (min (a.at_ + a.count) (b.at_ + b.count)))] (re (w_seq (sr ?_)))))
  refine qm hnt rfl rfl (qm hnt rfl rfl (qo hnt rfl (s_geq rfl rfl ?_)))
  refine re (w_if rfl (fun c2 => ?_) (fun c2 => ?_))
  ·try simp only [sB] at c2
   have em : meetOk a b = false := by simp only [meetOk,ea,eb,Bool.true_and]; apply decide_eq_false; omega
   refine sr (xm hnt 3 [.o 3] [] [(5,pB false)] 3 [(2,.obj [pI 0,pI 0]),(1,.obj (cSpan b)),(0,.obj (cSpan a))] (re (w_leO (n := 2) (ds := cSpan (meetV a b)) rfl ⟨le_of_eq (congrArg pI (show 0 = ((meetV a b).at_) by simp [em,meetV])),le_of_eq (congrArg pI (show 0 = ((meetV a b).count) by simp [em,meetV])),trivial⟩ (w_le (s := 5) (y := pB (meetOk a b)) rfl (le_of_eq (congrArg pB (show false = (meetOk a b) by simp [em,meetV]))) (w_ret ?_)))))
   exact q_then_ret fp
  try simp only [sB] at c2
  have em : meetOk a b = true := by simp only [meetOk,ea,eb,Bool.true_and]; apply decide_eq_true; omega
  refine w_skip (q_then (sr (xm hnt 7 [.o 7] [okI ((min (a.at_ + a.count) (b.at_ + b.count)) - (max a.at_ b.at_))] [(5,pB true)] 3 [(2,.obj [pI (max a.at_ b.at_),pI ((min (a.at_ + a.count) (b.at_ + b.count)) - (max a.at_ b.at_))]),(1,.obj (cSpan b)),(0,.obj (cSpan a))] ?_ (hc := ⟨by unfold okI; (omega),trivial⟩))))
  exact re (w_leO (n := 2) (ds := cSpan (meetV a b)) rfl ⟨le_of_eq (congrArg pI (show (max a.at_ b.at_) = ((meetV a b).at_) by simp [em,meetV])),le_of_eq (congrArg pI (show ((min (a.at_ + a.count) (b.at_ + b.count)) - (max a.at_ b.at_)) = ((meetV a b).count) by simp [em,meetV])),trivial⟩ (w_le (s := 5) (y := pB (meetOk a b)) rfl (le_of_eq (congrArg pB (show true = (meetOk a b) by simp [em,meetV]))) (w_ret fp)))
 have g1' := g1
 try simp only [sB] at g1'
 have ea : spOk a = false := by simpa using g1
 have em : meetOk a b = false := by simp [meetOk,ea]
 refine r_eq (s := 11) (y := pB true) rfl (congrArg pB g1) (xp hnt 3 [.o 3] [] [(15,pB true)] (re (w_if rfl (fun _ => ?_) (fun e => absurd e (by decide)))))
 refine sr (xm hnt 3 [.o 3] [] [(5,pB false)] 3 [(2,.obj [pI 0,pI 0]),(1,.obj (cSpan b)),(0,.obj (cSpan a))] (re (w_leO (n := 2) (ds := cSpan (meetV a b)) rfl ⟨le_of_eq (congrArg pI (show 0 = ((meetV a b).at_) by simp [em,meetV])),le_of_eq (congrArg pI (show 0 = ((meetV a b).count) by simp [em,meetV])),trivial⟩ (w_le (s := 5) (y := pB (meetOk a b)) rfl (le_of_eq (congrArg pB (show false = (meetOk a b) by simp [em,meetV]))) (w_ret ?_)))))
 exact q_then_ret fp
theorem w_span_In (a : TSpan) (b : TSpan)  :
    T Try.prog 80 [PV.f (eSpan a),PV.f (eSpan b)] 0 [] (Ret (pB (spIn a b)) 0 []) := by
 refine t_fun tabOk (n := 19) (rs := [.tmp 4]) Try.func80 rfl rfl rfl rfl (nb rfl) ?_
 intro c hnt hk
 refine sr (qo hnt rfl (s_box rfl rfl ?_))
 refine qo hnt rfl (s_box rfl rfl ?_)
 refine qa hnt rfl rfl (r_set [(2,PV.ptr 0 0),(3,PV.ptr 1 0)] [(1,.obj (cSpan b)),(0,.obj (cSpan a))] 2 ⟨rfl,rfl,trivial⟩ rfl rfl (re (sr (xp hnt 2 [.o 2] [] [(8,PV.f (eSpan a)),(9,PV.f (eSpan b))] (qo hnt rfl (s_callF rfl rfl rfl (w_span_Meet a b) rfl ?_))))))
 refine xm hnt 6 [.o 6] [] [(5,PV.ptr 2 0),(6,pB (meetOk a b))] 3 [(2,.obj (cSpan (meetV a b))),(1,.obj (cSpan b)),(0,.obj (cSpan a))] (re (sr (qm hnt rfl rfl (qm hnt rfl rfl (r_if tabOk hnt rfl rfl rfl (fun g1 => ?_) (fun g1 => ?_))))))
 ·have g1' := g1
  try simp only [sB] at g1'
  have em := g1
  refine qo hnt rfl (s_load_ptr tab_120 rfl rfl rfl (nb rfl) ?_)
  refine r_eq (s := 14) (y := pB true) rfl (congrArg pB g1) (xp hnt 1 [.o 1] [] [(16,PV.f (eSpan a))] (ry hnt rfl rfl rfl rfl (qo hnt rfl (s_eqstruct (r := decide ((meetV a b).at_ = a.at_) && (decide ((meetV a b).count = a.count) && true)) seq_120 rfl rfl rfl rfl (by rfl) ?_))))
  refine qo hnt rfl (s_pick_t rfl rfl rfl ?_)
  exact ae hnt rfl rfl (w_le (s := 4) (y := pB (spIn a b)) rfl (le_of_eq (congrArg pB (show (decide ((meetV a b).at_ = a.at_) && (decide ((meetV a b).count = a.count) && true)) = (spIn a b) by (unfold spIn; rw [em,← spEq]; rfl)))) (w_ret fp))
 have g1' := g1
 try simp only [sB] at g1'
 have em := g1
 exact r_eq (s := 14) (y := pB false) rfl (congrArg pB g1) (xp hnt 4 [.o 4] [] [(4,pB false)] (re (w_le (s := 4) (y := pB (spIn a b)) rfl (le_of_eq (congrArg pB (show false = (spIn a b) by (unfold spIn; rw [em]; simp; done)))) (w_ret fp))))
theorem w_burgageref7_In (a : TSpan) (b : TSpan)  :
    T Try.prog 91 [PV.f (eSpan a),PV.f (eSpan b)] 0 [] (Ret (pB (spIn a b)) 0 []) := by
 refine t_fun tabOk (n := 19) (rs := [.tmp 4]) Try.func91 rfl rfl rfl rfl (nb rfl) ?_
 intro c hnt hk
 refine sr (qo hnt rfl (s_box rfl rfl ?_))
 refine qo hnt rfl (s_box rfl rfl ?_)
 refine qa hnt rfl rfl (r_set [(2,PV.ptr 0 0),(3,PV.ptr 1 0)] [(1,.obj (cSpan b)),(0,.obj (cSpan a))] 2 ⟨rfl,rfl,trivial⟩ rfl rfl (re (sr (xp hnt 2 [.o 2] [] [(8,PV.f (eSpan a)),(9,PV.f (eSpan b))] (qo hnt rfl (s_callF rfl rfl rfl (w_burgageref7_Meet a b) rfl ?_))))))
 refine xm hnt 6 [.o 6] [] [(5,PV.ptr 2 0),(6,pB (meetOk a b))] 3 [(2,.obj (cSpan (meetV a b))),(1,.obj (cSpan b)),(0,.obj (cSpan a))] (re (sr (qm hnt rfl rfl (qm hnt rfl rfl (r_if tabOk hnt rfl rfl rfl (fun g1 => ?_) (fun g1 => ?_))))))
 ·have g1' := g1
  try simp only [sB] at g1'
  have em := g1
  refine qo hnt rfl (s_load_ptr tab_133 rfl rfl rfl (nb rfl) ?_)
  refine r_eq (s := 14) (y := pB true) rfl (congrArg pB g1) (xp hnt 1 [.o 1] [] [(16,PV.f (eSpan a))] (ry hnt rfl rfl rfl rfl (qo hnt rfl (s_eqstruct (r := decide ((meetV a b).at_ = a.at_) && (decide ((meetV a b).count = a.count) && true)) seq_133 rfl rfl rfl rfl (by rfl) ?_))))
  refine qo hnt rfl (s_pick_t rfl rfl rfl ?_)
  exact ae hnt rfl rfl (w_le (s := 4) (y := pB (spIn a b)) rfl (le_of_eq (congrArg pB (show (decide ((meetV a b).at_ = a.at_) && (decide ((meetV a b).count = a.count) && true)) = (spIn a b) by (unfold spIn; rw [em,← spEq]; rfl)))) (w_ret fp))
 have g1' := g1
 try simp only [sB] at g1'
 have em := g1
 exact r_eq (s := 14) (y := pB false) rfl (congrArg pB g1) (xp hnt 4 [.o 4] [] [(4,pB false)] (re (w_le (s := 4) (y := pB (spIn a b)) rfl (le_of_eq (congrArg pB (show false = (spIn a b) by (unfold spIn; rw [em]; simp; done)))) (w_ret fp))))
theorem w_span_Cover_1 (x : TSpan)  :
    T Try.prog 97 [PV.f (eSpan x)] 0 [] (Ret (pB (!(spOk x))) 0 []) := by
 refine t_fun tabOk (n := 6) (rs := [.tmp 2]) Try.func97 rfl rfl rfl rfl (nb rfl) ?_
 intro c hnt hk
 refine sr (qo hnt rfl (s_box rfl rfl ?_))
 refine qa hnt rfl rfl (r_set [(1,PV.ptr 0 0)] [(0,.obj (cSpan x))] 1 ⟨rfl,trivial⟩ rfl rfl (re (sr (xp hnt 1 [.o 1] [] [(3,PV.f (eSpan x))] (qo hnt rfl (s_callF rfl rfl rfl (w_span_right x) rfl ?_))))))
 exact xp hnt 2 [.o 2] [] [(2,pB (!(spOk x)))] (re (w_ret fp))
theorem w_span_Cover_2 (x : TSpan) (v : Int) (hx : spOk x = true) :
    T Try.prog 99 [PV.f (eSpan x),PV.ptr 0 0] 1 [(0,.obj [pI v])] (Ret (pB (decide (x.at_ ≤ v) && decide (v < x.at_ + x.count))) 1 [(0,.obj [pI v])]) := by
 refine t_fun tabOk (n := 14) (rs := [.tmp 3]) Try.func99 rfl rfl rfl rfl (nb rfl) ?_
 intro c hnt hk
 refine sr (qo hnt rfl (s_box rfl rfl ?_))
 refine qa hnt rfl rfl (r_set [(1,PV.ptr 0 0),(2,PV.ptr 1 0)] [(1,.obj (cSpan x)),(0,.obj [pI v])] 2 ⟨rfl,rfl,trivial⟩ rfl rfl (re (w_seq (wdr hnt (xq 5 [.o 5] [] ?_)))))
 refine xi 8 [(8,pB (decide (x.at_ ≤ v))),(1,PV.ptr 0 0)] rfl (fun g1 => ?_) (fun g1 => ?_)
 ·have g1' := g1
  try simp only [sB] at g1'
  refine xkg [(8,pB (decide (x.at_ ≤ v))),(1,PV.ptr 0 0)] [(0,.obj [pI v])] [] [(0,.obj [pI v])] [(1,.obj (cSpan x)),(0,.obj [pI v])] (s_load_ptr1 tab_3 rfl rfl rfl rfl rfl ⟨rfl,rfl,rfl⟩) ?_ (hs := ⟨rfl,trivial⟩)
  refine xey 8 [(8,pB (decide (x.at_ ≤ v))),(2,PV.ptr 1 0)] rfl g1 (xkg [(8,pB (decide (x.at_ ≤ v))),(2,PV.ptr 1 0)] [(1,.obj (cSpan x))] [] [(1,.obj (cSpan x))] [(1,.obj (cSpan x)),(0,.obj [pI v])] (s_load_ptr tab_120 rfl rfl rfl (nb rfl) ⟨rfl,rfl,rfl⟩) ?_ (hs := ⟨rfl,trivial⟩))
  refine xey 8 [(8,pB (decide (x.at_ ≤ v))),(10,PV.f (eSpan x))] rfl g1 (xkg [(8,pB (decide (x.at_ ≤ v))),(10,PV.f (eSpan x))] [] [] [] [(1,.obj (cSpan x)),(0,.obj [pI v])] (s_callF rfl rfl rfl (w_span_Span_end x (by omega)) rfl ⟨rfl,rfl,rfl⟩) (xey 8 [(8,pB (decide (x.at_ ≤ v))),(9,pI v),(11,pI (x.at_ + x.count))] rfl g1 (xkg [(8,pB (decide (x.at_ ≤ v))),(9,pI v),(11,pI (x.at_ + x.count))] [] [] [] [(1,.obj (cSpan x)),(0,.obj [pI v])] (s_lss rfl rfl ⟨rfl,rfl,rfl⟩) (xk [(8,pB (decide (x.at_ ≤ v))),(12,pB (decide (v < x.at_ + x.count)))] [] [] [] [(1,.obj (cSpan x)),(0,.obj [pI v])] (s_pick_t rfl g1 rfl ⟨rfl,rfl,rfl⟩) (xq 1 [.o 1] [] ?_)))))
  refine xe [(3,pB (decide (v < x.at_ + x.count)))] (re (w_le (s := 3) (y := pB (decide (x.at_ ≤ v) && decide (v < x.at_ + x.count))) rfl (le_of_eq (congrArg pB (show (decide (v < x.at_ + x.count)) = (decide (x.at_ ≤ v) && decide (v < x.at_ + x.count)) by (simp_all; done)))) (w_ret ?_)))
  exact fin_names (nx1 := 1) (H1 := [(0,.obj [pI v])]) [(0,0)] (ret_tmp rfl ret_nil) rfl (by decide) ⟨⟨_,_,rfl,rfl,rfl,rfl⟩,trivial⟩ (by decide) rfl ⟨rfl,rfl,rfl⟩
 have g1' := g1
 try simp only [sB] at g1'
 refine xen 8 [(8,pB (decide (x.at_ ≤ v))),(2,PV.ptr 1 0)] rfl g1 (xen 8 [(8,pB (decide (x.at_ ≤ v))),(10,undefP)] rfl g1 (xen 8 [(8,pB (decide (x.at_ ≤ v))),(9,undefP),(11,undefP)] rfl g1 (xk [(8,pB (decide (x.at_ ≤ v))),(12,undefP)] [] [] [] [(1,.obj (cSpan x)),(0,.obj [pI v])] (s_pick_f rfl g1 rfl ⟨rfl,rfl,rfl⟩) (xq 1 [.o 1] [] (xe [(3,pB false)] ?_)))))
 refine re (w_le (s := 3) (y := pB (decide (x.at_ ≤ v) && decide (v < x.at_ + x.count))) rfl (le_of_eq (congrArg pB (show false = (decide (x.at_ ≤ v) && decide (v < x.at_ + x.count)) by (simp_all; omega)))) (w_ret ?_))
 exact fin_names (nx1 := 1) (H1 := [(0,.obj [pI v])]) [(0,0)] (ret_tmp rfl ret_nil) rfl (by decide) ⟨⟨_,_,rfl,rfl,rfl,rfl⟩,trivial⟩ (by decide) rfl ⟨rfl,rfl,rfl⟩
theorem w_slices_IndexFunc_span_Span_span_Span_c1 (s : List TSpan) (cl_s : Bool) (hs : s.length ≤ 140737488351232) :
    T Try.prog 78 [pS 2 cl_s eSpan s,PV.clo (.func 97) []] 0 [] (Ret (pI (idxI (s.findIdx? fun x => !(spOk x)))) 0 []) := by
 refine t_fun tabOk (n := 19) (rs := [.tmp 4]) Try.func78 rfl rfl rfl rfl (nb rfl) ?_
 intro c hnt hk
 refine sr (ae hnt rfl rfl (w_seq (sr (qm hnt rfl rfl (qo hnt rfl (s_lenM (l := s) tab_118 rfl (hM_sl (f := eSpan) rfl) ?_))))))
 refine qm hnt rfl rfl (re (w_block (loop1 (fun (i : Nat) => i ≤ s.length ∧ ∀ j x,j < i → s[j]? = some x → (!(spOk x)) = false) (fun (i : Nat) => [(0,pS 2 cl_s eSpan s),(1,PV.clo (.func 97) []),(7,pN s.length),(8,pN i)]) 0 (fun (i : Nat) => []) (fun (i : Nat) => s.length - i) (0) ?_ ⟨[],rfl,⟨⟨_,rfl,rfl,rfl⟩,⟨_,rfl,rfl,rfl⟩,⟨_,rfl,rfl,rfl⟩,⟨_,rfl,rfl,rfl⟩,trivial⟩,trivial,by rw [hk]; decide⟩ ?_)))
 · exact ⟨Nat.zero_le _,fun j x hj => by omega⟩
 ·intro i hI
  obtain ⟨hi,ht⟩ := hI
  refine sr (qo hnt rfl (s_lss rfl rfl ?_))
  refine re (w_seq (w_if rfl (fun c1 => ?_) (fun c1 => ?_)))
  ·try simp only [sB] at c1
   refine w_skip (q_then (w_seq (w_block (sr (xp hnt 2 [.o 2] [] [(5,pN i)] ?_)))))
   refine re (sr (qm hnt rfl rfl (qm hnt rfl rfl (qm hnt rfl rfl ?_))))
   obtain ⟨e1,he1⟩ := get_of_lt s (i := i) (by omega)
   refine qo hnt rfl (s_iaM (q := i) (b := e1) (f := eSpan) tab_118 rfl tab_120 rfl rfl (by omega) rfl he1 ?_)
   refine qo hnt rfl (s_load_ro tab_120 rfl rfl rfl ?_)
   refine qo hnt rfl (s_callF rfl rfl rfl (w_span_Cover_1 e1) rfl ?_)
   refine re (w_if rfl (fun c2 => ?_) (fun c2 => ?_))
   ·have c2_ := c2
    try simp only [sB] at c2
    refine sr (xp hnt 2 [.o 2] [] [(4,pN i)] (re (w_le (s := 4) (y := pI (idxI (s.findIdx? fun x => !(spOk x)))) rfl (le_of_eq (congrArg pI (show ((i : Nat) : Int) = (idxI (s.findIdx? fun x => !(spOk x))) by rw [find_step (p := fun x => !(spOk x)) ht he1 c2_]))) (w_ret (q_block_ret ?_)))))
    exact q_then_ret (q_then_ret (q_block_ret (q_then_ret fp)))
   have c2_ := c2
   try simp only [sB] at c2
   refine w_skip (q_block (q_then (w_R (qo hnt rfl (s_addN (a := i) (b := 1) rfl rfl (by omega) (by omega) (by omega) ?_)))))
   refine qm hnt rfl rfl (re (⟨(i + 1), ?_, ?_,⟨[],rfl,⟨⟨_,rfl,rfl,rfl⟩,⟨_,rfl,rfl,rfl⟩,⟨_,rfl,rfl,rfl⟩,⟨_,rfl,rfl,rfl⟩,trivial⟩,trivial,by rw [hk]; decide⟩⟩))
   ·refine ⟨by omega,fun j x hj hx => ?_⟩
    by_cases hji : j < i
    · exact ht j x hji hx
    · obtain rfl : j = i := by omega
      rw [he1] at hx; cases hx; exact c2_
   · omega
  try simp only [sB] at c1
  exact w_exit (q_then_exit (q_then_exit (q_block_exit (q_then (sr (ae hnt rfl rfl (w_le (s := 4) (y := pI (idxI (s.findIdx? fun x => !(spOk x)))) rfl (le_of_eq (congrArg pI (show (-1) = (idxI (s.findIdx? fun x => !(spOk x))) by rw [find_none (p := fun x => !(spOk x)) (fun j x hj hx => ht j x (by omega) hx)]))) (w_ret fp))))))))
theorem w_slices_IndexFunc_span_Span_span_Span_c2 (s : List TSpan) (cl_s : Bool) (v : Int) (hs : s.length ≤ 140737488351232) (hg : ∀ x ∈ s,spOk x = true) :
    T Try.prog 78 [pS 2 cl_s eSpan s,PV.clo (.func 99) [PV.ptr 0 0]] 1 [(0,.obj [pI v])] (Ret (pI (idxI (idxAt s v))) 1 [(0,.obj [pI v])]) := by
 refine t_fun tabOk (n := 19) (rs := [.tmp 4]) Try.func78 rfl rfl rfl rfl (nb rfl) ?_
 intro c hnt hk
 refine sr (ae hnt rfl rfl (w_seq (sr (qm hnt rfl rfl (qo hnt rfl (s_lenM (l := s) tab_118 rfl (hM_sl (f := eSpan) rfl) ?_))))))
 refine qm hnt rfl rfl (re (w_block (loop1 (fun (i : Nat) => i ≤ s.length ∧ ∀ j x,j < i → s[j]? = some x → (decide (x.at_ ≤ v) && decide (v < x.at_ + x.count)) = false) (fun (i : Nat) => [(0,pS 2 cl_s eSpan s),(1,PV.clo (.func 99) [PV.ptr 0 0]),(7,pN s.length),(8,pN i)]) 1 (fun (i : Nat) => [(0,.obj [pI v])]) (fun (i : Nat) => s.length - i) (0) ?_ ⟨[(0,0)],by rw [hk]; decide,⟨⟨_,rfl,rfl,rfl⟩,⟨_,rfl,rfl,rfl⟩,⟨_,rfl,rfl,rfl⟩,⟨_,rfl,rfl,rfl⟩,trivial⟩,⟨⟨_,_,rfl,rfl,rfl,rfl⟩,trivial⟩,by rw [hk]; decide⟩ ?_)))
 · exact ⟨Nat.zero_le _,fun j x hj => by omega⟩
 ·intro i hI
  obtain ⟨hi,ht⟩ := hI
  refine sr (qo hnt rfl (s_lss rfl rfl ?_))
  refine re (w_seq (w_if rfl (fun c1 => ?_) (fun c1 => ?_)))
  ·try simp only [sB] at c1
   refine w_skip (q_then (w_seq (w_block (sr (xp hnt 2 [.o 2] [] [(5,pN i)] ?_)))))
   refine re (w_seq ?_)
   have hge := hg
   refine w_R (qm hnt rfl rfl (qm hnt rfl rfl (qm hnt rfl rfl ?_)))
   obtain ⟨e1,he1⟩ := get_of_lt s (i := i) (by omega)
   refine qo hnt rfl (s_iaM (q := i) (b := e1) (f := eSpan) tab_118 rfl tab_120 rfl rfl (by omega) rfl he1 ?_)
   refine qo hnt rfl (s_load_ro tab_120 rfl rfl rfl ?_)
   refine qo hnt rfl (s_callK 1 (pB (decide (e1.at_ ≤ v) && decide (v < e1.at_ + e1.count))) [(0,.obj [pI v])] [0] (w_span_Cover_2 e1 v (by exact hg e1 (List.mem_of_getElem? he1))) ?_)
   refine r_set [(0,pS 2 cl_s eSpan s),(1,PV.clo (.func 99) [PV.ptr 0 0]),(5,pN i),(7,pN s.length),(8,pN i),(16,pB (decide (e1.at_ ≤ v) && decide (v < e1.at_ + e1.count)))] [(0,.obj [pI v])] 1 ⟨rfl,rfl,rfl,rfl,rfl,rfl,trivial⟩ rfl rfl (re (w_if rfl (fun c2 => ?_) (fun c2 => ?_)))
   ·have c2_ := c2
    try simp only [sB] at c2
    refine sr (xp hnt 2 [.o 2] [] [(4,pN i)] (re (w_le (s := 4) (y := pI (idxI (idxAt s v))) rfl (le_of_eq (congrArg pI (show ((i : Nat) : Int) = (idxI (idxAt s v)) by unfold idxAt; rw [find_step (p := fun x => decide (x.at_ ≤ v) && decide (v < x.at_ + x.count)) ht he1 c2_]))) (w_ret (q_block_ret ?_)))))
    refine q_then_ret (q_then_ret (q_block_ret (q_then_ret ?_)))
    exact fin_names (nx1 := 1) (H1 := [(0,.obj [pI v])]) [(0,0)] (ret_tmp rfl ret_nil) rfl (by decide) ⟨⟨_,_,rfl,rfl,rfl,rfl⟩,trivial⟩ (by decide) rfl ⟨rfl,rfl,rfl⟩
   have c2_ := c2
   try simp only [sB] at c2
   refine w_skip (q_block (q_then (w_R (qo hnt rfl (s_addN (a := i) (b := 1) rfl rfl (by omega) (by omega) (by omega) ?_)))))
   refine qm hnt rfl rfl (re (⟨(i + 1), ?_, ?_,⟨[(0,0)],by rw [hk]; decide,⟨⟨_,rfl,rfl,rfl⟩,⟨_,rfl,rfl,rfl⟩,⟨_,rfl,rfl,rfl⟩,⟨_,rfl,rfl,rfl⟩,trivial⟩,⟨⟨_,_,rfl,rfl,rfl,rfl⟩,trivial⟩,by rw [hk]; decide⟩⟩))
   ·refine ⟨by omega,fun j x hj hx => ?_⟩
    by_cases hji : j < i
    · exact ht j x hji hx
    · obtain rfl : j = i := by omega
      rw [he1] at hx; cases hx; exact c2_
   · omega
  try simp only [sB] at c1
  refine w_exit (q_then_exit (q_then_exit (q_block_exit (q_then (sr (ae hnt rfl rfl (w_le (s := 4) (y := pI (idxI (idxAt s v))) rfl (le_of_eq (congrArg pI (show (-1) = (idxI (idxAt s v)) by unfold idxAt; rw [find_none (p := fun x => decide (x.at_ ≤ v) && decide (v < x.at_ + x.count)) (fun j x hj hx => ht j x (by omega) hx)]))) (w_ret ?_))))))))
  exact fin_names (nx1 := 1) (H1 := [(0,.obj [pI v])]) [(0,0)] (ret_tmp rfl ret_nil) rfl (by decide) ⟨⟨_,_,rfl,rfl,rfl,rfl⟩,trivial⟩ (by decide) rfl ⟨rfl,rfl,rfl⟩
theorem w_slices_ContainsFunc_span_Span_span_Span_c1 (s : List TSpan) (cl_s : Bool) (hs : s.length ≤ 140737488351232) :
    T Try.prog 96 [pS 2 cl_s eSpan s,PV.clo (.func 97) []] 0 [] (Ret (pB (decide (∃ x ∈ s,spOk x = false))) 0 []) := by
 refine t_fun tabOk (n := 9) (rs := [.tmp 4]) Try.func96 rfl rfl rfl rfl (nb rfl) ?_
 intro c hnt hk
 refine sr (ae hnt rfl rfl (sr (qm hnt rfl rfl (qm hnt rfl rfl (qo hnt rfl (s_callK 0 (pI (idxI (s.findIdx? fun x => !(spOk x)))) [] [] (w_slices_IndexFunc_span_Span_span_Span_c1 s cl_s (by omega)) ?_))))))
 refine qo hnt rfl (s_geq rfl rfl ?_)
 exact ae hnt rfl rfl (w_le (s := 4) (y := pB (decide (∃ x ∈ s,spOk x = false))) rfl (le_of_eq (congrArg pB (show (decide (0 ≤ idxI (s.findIdx? fun x => !(spOk x)))) = (decide (∃ x ∈ s,spOk x = false)) by exact contains_idx s))) (w_ret fp))
theorem w_span_Cover (l : List TSpan) (cl_l : Bool) (s : TSpan) (hl : l.length ≤ 140737488351232) :
    T Try.prog 77 [pS 2 cl_l eSpan l,PV.f (eSpan s)] 0 [] (Ret (PV.tup [pS 2 false eSpan (coverV l s),pB (coverOk l s)]) 0 []) := by
 refine t_fun tabOk (n := 48) (rs := [.tmp 4,.tmp 5]) Try.func77 rfl rfl rfl rfl (nb rfl) ?_
 intro c hnt hk
 refine sr (xm hnt 3 [.o 3] [] [(3,PV.ptr 0 0)] 1 [(0,.obj (cSpan s))] (re (w_seq (sr (xp hnt 1 [.o 1] [] [(10,PV.f (eSpan s))] ?_)))))
 refine qo hnt rfl (s_callF rfl rfl rfl (w_span_right s) rfl ?_)
 refine xp hnt 2 [.o 2] [] [(13,pB (!(spOk s)))] (r_if tabOk hnt rfl rfl rfl (fun g1 => ?_) (fun g1 => ?_))
 ·have g1' := g1
  try simp only [sB] at g1'
  have es : spOk s = true := by simpa using g1
  have hs := (spOk_iff s).1 es
  refine qm hnt rfl rfl (r_eq (s := 13) (y := pB false) rfl (congrArg pB g1) (ry hnt rfl rfl rfl rfl (qo hnt rfl (s_callK 1 (pB (decide (∃ x ∈ l,spOk x = false))) [(0,.obj (cSpan s))] [] (w_slices_ContainsFunc_span_Span_span_Span_c1 l cl_l (by omega)) ?_))))
  refine qo hnt rfl (s_pick_f rfl rfl rfl ?_)
  refine re (w_if rfl (fun c1 => ?_) (fun c1 => ?_))
  ·try simp only [sB] at c1
   have ec : coverL l s = none := by unfold coverL; rw [if_neg]; rintro ⟨_,h⟩; obtain ⟨x,hx,hf⟩ := c1; rw [h x hx] at hf; cases hf
   exact sr (qa hnt rfl rfl (ae hnt rfl rfl (w_le (s := 4) (y := pS 2 false eSpan []) rfl (le_nilS 2 false) (w_le (s := 4) (y := pS 2 false eSpan (coverV l s)) rfl (le_of_eq (congrArg (fun z => pS 2 false eSpan z) (show ([] : List TSpan) = (coverV l s) by (simp [coverV,coverOk,ec]; done)))) (w_le (s := 5) (y := pB (coverOk l s)) rfl (le_of_eq (congrArg pB (show false = (coverOk l s) by (simp [coverV,coverOk,ec]; done)))) (w_ret (q_then_ret fp)))))))
  try simp only [sB] at c1
  have hg : ∀ x ∈ l,spOk x = true := by intro x hx; cases hq : spOk x with|true => rfl|false => exact absurd ⟨x,hx,hq⟩ c1
  have ec : coverL l s = covGo l (s.at_ + s.count) s.at_ := by unfold coverL; rw [if_pos ⟨es,hg⟩]
  refine w_skip (q_then (sr (ae hnt rfl rfl (w_seq (sr ?_)))))
  refine xm hnt 4 [.o 4] [] [(7,PV.ptr 1 0)] 2 [(1,.obj [pI s.at_]),(0,.obj (cSpan s))] (re (w_block (w_adopt (s := 6) (sz := 2) rfl (loop2 (fun (os : List TSpan) (v : Int) => s.at_ ≤ v ∧ v ≤ s.at_ + s.count ∧ (os.length : Int) ≤ v - s.at_ ∧ covGo l (s.at_ + s.count) s.at_ = (covGo l (s.at_ + s.count) v).map (os ++ ·)) (fun (os : List TSpan) (v : Int) => [(0,pS 2 cl_l eSpan l),(3,PV.ptr 2 0),(6,PV.ref 0 0 none),(7,PV.ptr 1 0)]) 3 (fun (os : List TSpan) (v : Int) => [(0,oB true 2 eSpan os),(1,.obj [pI v]),(2,.obj (cSpan s))]) (fun (os : List TSpan) (v : Int) => (s.at_ + s.count - v).toNat) (([] : List TSpan)) (s.at_) ?_ ⟨[(0,2),(1,1),(2,0)],by rw [hk]; decide,⟨⟨_,rfl,rfl,rfl⟩,⟨_,rfl,rfl,rfl⟩,⟨_,rfl,rfl,rfl⟩,⟨_,rfl,rfl,rfl⟩,trivial⟩,⟨⟨_,_,rfl,rfl,rfl,rfl⟩,⟨_,_,rfl,rfl,rfl,rfl⟩,⟨_,_,rfl,rfl,rfl,rfl⟩,trivial⟩,by rw [hk]; decide⟩ ?_))))
  · exact ⟨by omega,by omega,by simp,by simp⟩
  ·intro os v hI
   obtain ⟨hv1,hv2,hol,hcov⟩ := hI
   refine w_seq (w_seq (wdr hnt (xq 4 [.o 2,.c (pI (s.at_ + s.count)),.o 1] [T Try.prog 98 [PV.f (eSpan s)] 0 [] (Ret (pI (s.at_ + s.count)) 0 [])] ?_ (hc := ⟨(w_span_Span_end s (by omega)),trivial⟩))))
   refine xe [(0,pS 2 cl_l eSpan l),(3,PV.ptr 2 0),(6,PV.ref 0 0 none),(7,PV.ptr 1 0),(22,pB (decide (v < s.at_ + s.count)))] (re (w_if rfl (fun c2 => ?_) (fun c2 => ?_)))
   ·try simp only [sB] at c2
    refine w_skip (q_then (w_seq (w_block (sr (qm hnt rfl rfl (qo hnt rfl (s_makeFunc rfl rfl ?_)))))))
    refine qo hnt rfl (s_callK 3 (pI (idxI (idxAt l v))) [(1,.obj [pI v]),(0,oB true 2 eSpan os),(2,.obj (cSpan s))] [1] (w_slices_IndexFunc_span_Span_span_Span_c2 l cl_l v (by omega) (by omega)) ?_)
    refine qa hnt rfl rfl (r_set [(0,pS 2 cl_l eSpan l),(3,PV.ptr 2 0),(6,PV.ref 0 0 none),(7,PV.ptr 1 0),(8,pI (idxI (idxAt l v)))] [(1,.obj [pI v]),(0,oB true 2 eSpan os),(2,.obj (cSpan s))] 3 ⟨rfl,rfl,rfl,rfl,rfl,trivial⟩ rfl rfl (re (w_seq (sr (qm hnt rfl rfl (qo hnt rfl (s_lss rfl rfl ?_)))))))
    refine re (w_if rfl (fun c3 => ?_) (fun c3 => ?_))
    ·try simp only [sB] at c3
     have en : coverL l s = none := by rw [ec,hcov,covGo_none c2 (idx_none c3)]; rfl
     refine sr (qa hnt rfl rfl (ae hnt rfl rfl (w_le (s := 4) (y := pS 2 false eSpan []) rfl (le_nilS 2 false) (w_le (s := 4) (y := pS 2 false eSpan (coverV l s)) rfl (le_of_eq (congrArg (fun z => pS 2 false eSpan z) (show ([] : List TSpan) = (coverV l s) by (simp [coverV,coverOk,en]; done)))) (w_le (s := 5) (y := pB (coverOk l s)) rfl (le_of_eq (congrArg pB (show false = (coverOk l s) by (simp [coverV,coverOk,en]; done)))) (w_ret (q_then_ret (q_block_ret (q_then_ret ?_)))))))))
     exact q_then_ret (q_block_ret (q_then_ret fp))
    try simp only [sB] at c3
    obtain ⟨ii,e0,hxa,hxi,he0,hxl,hxh⟩ := idx_some (l := l) (v := v) (by omega)
    refine w_eq (s := 8) (y := pN ii) rfl (congrArg pI (show (idxI (idxAt l v)) = ((ii : Nat) : Int) by exact hxi)) ?_
    have eg := hg e0 (List.mem_of_getElem? he0)
    have heg := (spOk_iff e0).1 eg
    refine w_skip (q_then (w_seq (wdr hnt (xq 2 [.o 2] [] (xk [(28,pS 2 cl_l eSpan l),(29,pN ii)] [] [] [] [(1,.obj [pI v]),(0,oB true 2 eSpan os),(2,.obj (cSpan s))] (s_iaM (q := ii) (b := e0) (f := eSpan) tab_118 rfl tab_120 rfl rfl (by omega) rfl he0 ⟨rfl,rfl,rfl⟩) ?_)))))
    refine xq 4 [.o 1,.c (pI (e0.at_ + e0.count)),.o 1,.c (pI (s.at_ + s.count))] [T Try.prog 98 [PV.f (eSpan e0)] 0 [] (Ret (pI (e0.at_ + e0.count)) 0 []),T Try.prog 98 [PV.f (eSpan s)] 0 [] (Ret (pI (s.at_ + s.count)) 0 [])] ?_ (hc := ⟨(w_span_Span_end e0 (by omega)),(w_span_Span_end s (by omega)),trivial⟩)
    refine xk [(32,pI (e0.at_ + e0.count)),(34,pI (s.at_ + s.count))] [] [] [] [(1,.obj [pI v]),(0,oB true 2 eSpan os),(2,.obj (cSpan s))] (s_minI rfl ⟨rfl,rfl,rfl⟩) (xq 1 [.o 1] [] (xe [(0,pS 2 cl_l eSpan l),(3,PV.ptr 2 0),(6,PV.ref 0 0 none),(7,PV.ptr 1 0),(9,pI (min (e0.at_ + e0.count) (s.at_ + s.count)))] (re (sr (xp hnt 6 [.o 6] [okI ((min (e0.at_ + e0.count) (s.at_ + s.count)) - v)] [(36,PV.ref 0 0 none),(41,PV.f (.agg [encI v,encI ((min (e0.at_ + e0.count) (s.at_ + s.count)) - v)]))] ?_ (hc := ⟨by unfold okI; (omega),trivial⟩))))))
    refine qo hnt rfl (s_mkM (f := eSpan) [(⟨v,(min (e0.at_ + e0.count) (s.at_ + s.count)) - v⟩ : TSpan)] tab_118 rfl tab_120 ⟨rfl,by decide⟩ (by decide) rfl rfl rfl rfl ?_)
    refine qo hnt rfl (s_appR0 (f := eSpan) (l := os) (xs := [(⟨v,(min (e0.at_ + e0.count) (s.at_ + s.count)) - v⟩ : TSpan)]) tab_118 rfl tab_120 ⟨rfl,by decide,by decide⟩ (srcM tab_118 rfl (hM_ref0 (f := eSpan) rfl rfl)) rfl rfl (by (simp; omega)) ?_)
    refine qa hnt rfl rfl (r_set [(0,pS 2 cl_l eSpan l),(3,PV.ptr 2 0),(6,PV.ref 4 0 none),(7,PV.ptr 1 0),(9,pI (min (e0.at_ + e0.count) (s.at_ + s.count)))] [(4,oB true 2 eSpan (os ++ [(⟨v,(min (e0.at_ + e0.count) (s.at_ + s.count)) - v⟩ : TSpan)])),(3,oB true 2 eSpan [(⟨v,(min (e0.at_ + e0.count) (s.at_ + s.count)) - v⟩ : TSpan)]),(1,.obj [pI v]),(2,.obj (cSpan s))] 5 ⟨rfl,rfl,rfl,rfl,rfl,trivial⟩ rfl rfl (re (w_R (qm hnt rfl rfl (qo hnt rfl (s_store_ptr tab_3 rfl rfl rfl rfl rfl (nb rfl) ?_))))))
    refine r_set [(0,pS 2 cl_l eSpan l),(3,PV.ptr 2 0),(6,PV.ref 4 0 none),(7,PV.ptr 1 0)] [(1,.obj [pI (min (e0.at_ + e0.count) (s.at_ + s.count))]),(4,oB true 2 eSpan (os ++ [(⟨v,(min (e0.at_ + e0.count) (s.at_ + s.count)) - v⟩ : TSpan)])),(3,oB true 2 eSpan [(⟨v,(min (e0.at_ + e0.count) (s.at_ + s.count)) - v⟩ : TSpan)]),(2,.obj (cSpan s))] 5 ⟨rfl,rfl,rfl,rfl,trivial⟩ rfl rfl (r_end (q_block (q_then (sr (qo hnt rfl (s_load_ptr1 tab_3 rfl rfl rfl rfl rfl ?_))))))
    refine re (w_R (qo hnt rfl (s_alloc tab_3 ?_)))
    refine qo hnt rfl (s_store_ptr tab_3 rfl rfl rfl rfl rfl (nb rfl) ?_)
    refine re (⟨(os ++ [(⟨v,(min (e0.at_ + e0.count) (s.at_ + s.count)) - v⟩ : TSpan)]),(min (e0.at_ + e0.count) (s.at_ + s.count)), ?_, ?_,⟨[(0,4),(1,5),(2,2)],by rw [hk]; decide,⟨⟨_,rfl,rfl,rfl⟩,⟨_,rfl,rfl,rfl⟩,⟨_,rfl,rfl,rfl⟩,⟨_,rfl,rfl,rfl⟩,trivial⟩,⟨⟨_,_,rfl,rfl,rfl,rfl⟩,⟨_,_,rfl,rfl,rfl,rfl⟩,⟨_,_,rfl,rfl,rfl,rfl⟩,trivial⟩,by rw [hk]; decide⟩⟩)
    ·refine ⟨by omega,by omega,by simp; omega, ?_⟩
     rw [hcov,covGo_step c2 hxa he0 hxh,map_snoc]
    · omega
   try simp only [sB] at c2
   have ee : coverL l s = some os := by rw [ec,hcov,covGo_end (by omega)]; simp
   refine w_exit (q_then_exit (q_then_exit (q_block_exit (q_then (sr (qm hnt rfl rfl (qo hnt rfl (s_callK 3 (pS 2 true eSpan os) [(0,oB false 2 eSpan os),(1,.obj [pI v]),(2,.obj (cSpan s))] [] (w_slices_Clip_span_Span_span_Span os false) ?_))))))))
   exact qa hnt rfl rfl (qa hnt rfl rfl (r_set [(4,pS 2 true eSpan os),(5,pB true)] [(0,oB false 2 eSpan os),(1,.obj [pI v]),(2,.obj (cSpan s))] 3 ⟨rfl,rfl,trivial⟩ rfl rfl (re (w_le (s := 4) (y := pS 2 false eSpan os) rfl (le_loose) (w_le (s := 4) (y := pS 2 false eSpan (coverV l s)) rfl (le_of_eq (congrArg (fun z => pS 2 false eSpan z) (show os = (coverV l s) by simp [coverV,coverOk,ee]))) (w_le (s := 5) (y := pB (coverOk l s)) rfl (le_of_eq (congrArg pB (show true = (coverOk l s) by simp [coverV,coverOk,ee]))) (w_ret fp)))))))
 have g1' := g1
 try simp only [sB] at g1'
 have es : spOk s = false := by simpa using g1
 have ec : coverL l s = none := by simp [coverL,es]
 refine r_eq (s := 13) (y := pB true) rfl (congrArg pB g1) (xp hnt 2 [.o 2] [] [(16,pB true)] (re (w_if rfl (fun _ => ?_) (fun e => absurd e (by decide)))))
 exact sr (qa hnt rfl rfl (ae hnt rfl rfl (w_le (s := 4) (y := pS 2 false eSpan []) rfl (le_nilS 2 false) (w_le (s := 4) (y := pS 2 false eSpan (coverV l s)) rfl (le_of_eq (congrArg (fun z => pS 2 false eSpan z) (show ([] : List TSpan) = (coverV l s) by (simp [coverV,coverOk,ec]; done)))) (w_le (s := 5) (y := pB (coverOk l s)) rfl (le_of_eq (congrArg pB (show false = (coverOk l s) by (simp [coverV,coverOk,ec]; done)))) (w_ret (q_then_ret fp)))))))
theorem w_burgageref7_Cover (l : List TSpan) (cl_l : Bool) (s : TSpan) (hl : l.length ≤ 140737488351232) :
    T Try.prog 90 [pS 2 cl_l eSpan l,PV.f (eSpan s)] 0 [] (Ret (PV.tup [pS 2 false eSpan (coverV l s),pB (coverOk l s)]) 0 []) := by
 refine t_fun tabOk (n := 71) (rs := [.tmp 4,.tmp 5]) Try.func90 rfl rfl rfl rfl (nb rfl) ?_
 intro c hnt hk
 refine sr (xm hnt 3 [.o 3] [] [(3,PV.ptr 0 0)] 1 [(0,.obj (cSpan s))] (re (w_seq (sr (xp hnt 1 [.o 1] [] [(15,PV.f (eSpan s))] ?_)))))
 refine qo hnt rfl (s_callF rfl rfl rfl (w_burgageref7_Right s 2147483648 (by omega)) rfl ?_)
 refine qo hnt rfl (s_not rfl ?_)
 refine re (w_if rfl (fun c1 => ?_) (fun c1 => ?_))
 ·try simp only [sB] at c1
  have es : spOk s = false := by simpa using c1
  have ec : coverL l s = none := by simp [coverL,es]
  exact sr (qa hnt rfl rfl (ae hnt rfl rfl (w_le (s := 4) (y := pS 2 false eSpan []) rfl (le_nilS 2 false) (w_le (s := 4) (y := pS 2 false eSpan (coverV l s)) rfl (le_of_eq (congrArg (fun z => pS 2 false eSpan z) (show ([] : List TSpan) = (coverV l s) by (simp [coverV,coverOk,ec]; done)))) (w_le (s := 5) (y := pB (coverOk l s)) rfl (le_of_eq (congrArg pB (show false = (coverOk l s) by (simp [coverV,coverOk,ec]; done)))) (w_ret (q_then_ret fp)))))))
 try simp only [sB] at c1
 have es : spOk s = true := by simpa using c1
 have hs := (spOk_iff s).1 es
 refine w_skip (q_then (w_seq (sr (qm hnt rfl rfl (qo hnt rfl (s_lenM (l := l) tab_131 rfl (hM_sl (f := eSpan) rfl) ?_))))))
 refine qm hnt rfl rfl (re (w_block (loop1 (fun (i : Nat) => i ≤ l.length ∧ ∀ j x,j < i → l[j]? = some x → spOk x = true) (fun (i : Nat) => [(0,pS 2 cl_l eSpan l),(3,PV.ptr 0 0),(18,pS 2 cl_l eSpan l),(19,pN l.length),(20,pN i)]) 1 (fun (i : Nat) => [(0,.obj (cSpan s))]) (fun (i : Nat) => l.length - i) (0) ?_ ⟨[(0,0)],by rw [hk]; decide,⟨⟨_,rfl,rfl,rfl⟩,⟨_,rfl,rfl,rfl⟩,⟨_,rfl,rfl,rfl⟩,⟨_,rfl,rfl,rfl⟩,⟨_,rfl,rfl,rfl⟩,trivial⟩,⟨⟨_,_,rfl,rfl,rfl,rfl⟩,trivial⟩,by rw [hk]; decide⟩ ?_)))
 · exact ⟨Nat.zero_le _,fun j x hj => by omega⟩
 ·intro i hI
  obtain ⟨hi,hall⟩ := hI
  refine sr (qo hnt rfl (s_lss rfl rfl ?_))
  refine re (w_seq (w_if rfl (fun c2 => ?_) (fun c2 => ?_)))
  ·try simp only [sB] at c2
   refine w_skip (q_then (w_seq (w_block (sr ?_))))
   obtain ⟨e1,he1⟩ := get_of_lt l (i := i) (by omega)
   refine qo hnt rfl (s_iaM (q := i) (b := e1) (f := eSpan) tab_131 rfl tab_133 rfl rfl (by omega) rfl he1 ?_)
   refine xm hnt 3 [.o 3] [] [(7,PV.ptr 1 0)] 2 [(1,.obj (cSpan e1)),(0,.obj (cSpan s))] (re (sr (xp hnt 1 [.o 1] [] [(24,PV.f (eSpan e1))] (qo hnt rfl (s_callF rfl rfl rfl (w_burgageref7_Right e1 2147483648 (by omega)) rfl ?_)))))
   refine qo hnt rfl (s_not rfl ?_)
   refine re (w_if rfl (fun c3 => ?_) (fun c3 => ?_))
   ·try simp only [sB] at c3
    have ec : coverL l s = none := by unfold coverL; rw [if_neg]; rintro ⟨_,h⟩; exact absurd (h e1 (List.mem_of_getElem? he1)) (by simpa using c3)
    refine sr (qa hnt rfl rfl (ae hnt rfl rfl (w_le (s := 4) (y := pS 2 false eSpan []) rfl (le_nilS 2 false) (w_le (s := 4) (y := pS 2 false eSpan (coverV l s)) rfl (le_of_eq (congrArg (fun z => pS 2 false eSpan z) (show ([] : List TSpan) = (coverV l s) by (simp [coverV,coverOk,ec]; done)))) (w_le (s := 5) (y := pB (coverOk l s)) rfl (le_of_eq (congrArg pB (show false = (coverOk l s) by (simp [coverV,coverOk,ec]; done)))) (w_ret (q_block_ret (q_then_ret (q_then_ret ?_)))))))))
    exact q_block_ret (q_then_ret fp)
   try simp only [sB] at c3
   refine w_skip (q_block (q_then (w_R (qo hnt rfl (s_addN (a := i) (b := 1) rfl rfl (by omega) (by omega) (by omega) ?_)))))
   refine qm hnt rfl rfl (re (⟨(i + 1), ?_, ?_,⟨[(0,0)],by rw [hk]; decide,⟨⟨_,rfl,rfl,rfl⟩,⟨_,rfl,rfl,rfl⟩,⟨_,rfl,rfl,rfl⟩,⟨_,rfl,rfl,rfl⟩,⟨_,rfl,rfl,rfl⟩,trivial⟩,⟨⟨_,_,rfl,rfl,rfl,rfl⟩,trivial⟩,by rw [hk]; decide⟩⟩))
   ·refine ⟨by omega,fun j x hj hx => ?_⟩
    by_cases hji : j < i
    · exact hall j x hji hx
    · obtain rfl : j = i := by omega
      rw [he1] at hx; cases hx; simpa using c3
   · omega
  try simp only [sB] at c2
  have hg : ∀ x ∈ l,spOk x = true := by intro x hx; obtain ⟨j,hj⟩ := List.getElem?_of_mem hx; exact hall j x (by have := get_lt hj; omega) hj
  have ec : coverL l s = covGo l (s.at_ + s.count) s.at_ := by unfold coverL; rw [if_pos ⟨es,hg⟩]
  refine w_exit (q_then_exit (q_then_exit (q_block_exit (q_then (sr (ae hnt rfl rfl (w_seq (w_block (w_adopt (s := 8) (sz := 2) rfl ?_)))))))))
  refine loop3 (fun (ua : Int) (uc : Int) (os : List TSpan) => s.at_ ≤ ua ∧ ua + uc = s.at_ + s.count ∧ 0 ≤ uc ∧ (os.length : Int) ≤ ua - s.at_ ∧ covGo l (s.at_ + s.count) s.at_ = (covGo l (s.at_ + s.count) ua).map (os ++ ·)) (fun (ua : Int) (uc : Int) (os : List TSpan) => [(0,pS 2 cl_l eSpan l),(3,PV.ptr 0 0),(8,PV.ref 1 0 none)]) 2 (fun (ua : Int) (uc : Int) (os : List TSpan) => [(0,.obj [pI ua,pI uc]),(1,oB true 2 eSpan os)]) (fun (ua : Int) (uc : Int) (os : List TSpan) => uc.toNat) (s.at_) (s.count) (([] : List TSpan)) ?_ ⟨[(0,0),(1,1)],by rw [hk]; decide,⟨⟨_,rfl,rfl,rfl⟩,⟨_,rfl,rfl,rfl⟩,⟨_,rfl,rfl,rfl⟩,trivial⟩,⟨⟨_,_,rfl,rfl,rfl,rfl⟩,⟨_,_,rfl,rfl,rfl,rfl⟩,trivial⟩,by rw [hk]; decide⟩ ?_
  · exact ⟨by omega,by omega,by omega,by simp,by simp⟩
  ·intro ua uc os hI
   obtain ⟨hv1,hv2,hv3,hol,hcov⟩ := hI
   refine w_seq (sr (xp hnt 3 [.o 3] [] [(30,pB (decide (0 < uc)))] (re (w_if rfl (fun c4 => ?_) (fun c4 => ?_)))))
   ·try simp only [sB] at c4
    refine w_skip (q_then (w_block (sr (qo hnt rfl (s_alloc tab_133 ?_)))))
    refine r_set [(0,pS 2 cl_l eSpan l),(3,PV.ptr 0 0),(8,PV.ref 1 0 none),(9,PV.ptr 2 0)] [(2,.obj [pI 0,pI 0]),(0,.obj [pI ua,pI uc]),(1,oB true 2 eSpan os)] 3 ⟨rfl,rfl,rfl,rfl,trivial⟩ rfl rfl (re (sr (ae hnt rfl rfl (w_seq (sr (qm hnt rfl rfl (qo hnt rfl (s_lenM (l := l) tab_131 rfl (hM_sl (f := eSpan) rfl) ?_))))))))
    refine qm hnt rfl rfl (re (w_block (loop1 (fun (j : Nat) => j ≤ l.length ∧ ∀ k x,k < j → l[k]? = some x → (meetOk x ⟨ua,uc⟩ && decide ((meetV x ⟨ua,uc⟩).at_ = ua)) = false) (fun (j : Nat) => [(0,pS 2 cl_l eSpan l),(3,PV.ptr 0 0),(8,PV.ref 1 0 none),(9,PV.ptr 2 0),(10,pB false),(31,pS 2 cl_l eSpan l),(32,pN l.length),(33,pN j)]) 3 (fun (j : Nat) => [(0,.obj [pI ua,pI uc]),(1,oB true 2 eSpan os),(2,.obj [pI 0,pI 0])]) (fun (j : Nat) => l.length - j) (0) ?_ ⟨[(0,0),(1,1),(2,2)],by rw [hk]; decide,⟨⟨_,rfl,rfl,rfl⟩,⟨_,rfl,rfl,rfl⟩,⟨_,rfl,rfl,rfl⟩,⟨_,rfl,rfl,rfl⟩,⟨_,rfl,rfl,rfl⟩,⟨_,rfl,rfl,rfl⟩,⟨_,rfl,rfl,rfl⟩,⟨_,rfl,rfl,rfl⟩,trivial⟩,⟨⟨_,_,rfl,rfl,rfl,rfl⟩,⟨_,_,rfl,rfl,rfl,rfl⟩,⟨_,_,rfl,rfl,rfl,rfl⟩,trivial⟩,by rw [hk]; decide⟩ ?_)))
    · exact ⟨Nat.zero_le _,fun k x hk => by omega⟩
    ·intro j hI
     obtain ⟨hj,hno⟩ := hI
     refine sr (qo hnt rfl (s_lss rfl rfl ?_))
     refine re (w_seq (w_if rfl (fun c5 => ?_) (fun c5 => ?_)))
     ·try simp only [sB] at c5
      refine w_skip (q_then (w_seq (w_block (sr ?_))))
      obtain ⟨e2,he2⟩ := get_of_lt l (i := j) (by omega)
      refine qo hnt rfl (s_iaM (q := j) (b := e2) (f := eSpan) tab_131 rfl tab_133 rfl rfl (by omega) rfl he2 ?_)
      refine xm hnt 3 [.o 3] [] [(12,PV.ptr 3 0)] 4 [(3,.obj (cSpan e2)),(0,.obj [pI ua,pI uc]),(1,oB true 2 eSpan os),(2,.obj [pI 0,pI 0])] (re (sr (xp hnt 2 [.o 2] [] [(38,PV.f (eSpan e2)),(39,PV.f (.agg [encI ua,encI uc]))] (qo hnt rfl (s_callF rfl rfl rfl (w_burgageref7_Meet e2 (⟨ua,uc⟩ : TSpan)) rfl ?_)))))
      refine qm hnt rfl rfl (qo hnt rfl (s_extract rfl rfl ?_))
      refine qo hnt rfl (s_extract rfl rfl ?_)
      refine qo hnt rfl (s_alloc tab_133 ?_)
      refine qo hnt rfl (s_store_ptr tab_133 rfl rfl rfl rfl rfl (nb rfl) ?_)
      refine qa hnt rfl rfl (r_set [(0,pS 2 cl_l eSpan l),(3,PV.ptr 0 0),(8,PV.ref 1 0 none),(9,PV.ptr 2 0),(10,pB false),(13,PV.ptr 4 0),(14,pB (meetOk e2 (⟨ua,uc⟩ : TSpan))),(31,pS 2 cl_l eSpan l),(32,pN l.length),(33,pN j)] [(4,.obj [pI ((meetV e2 (⟨ua,uc⟩ : TSpan)).at_),pI ((meetV e2 (⟨ua,uc⟩ : TSpan)).count)]),(3,.obj (cSpan e2)),(0,.obj [pI ua,pI uc]),(1,oB true 2 eSpan os),(2,.obj [pI 0,pI 0])] 5 ⟨rfl,rfl,rfl,rfl,rfl,rfl,rfl,rfl,rfl,rfl,trivial⟩ rfl rfl (re (sr (qm hnt rfl rfl (qm hnt rfl rfl (r_if tabOk hnt rfl rfl rfl (fun g1 => ?_) (fun g1 => ?_)))))))
      ·have g1' := g1
       try simp only [sB] at g1'
       refine qo hnt rfl (s_fa_ptr tab_133 rfl rfl tab_3 (by decide) rfl ?_)
       refine r_eq (s := 44) (y := pB true) rfl (congrArg pB g1) (xp hnt 5 [.o 5] [] [(46,pI ((meetV e2 (⟨ua,uc⟩ : TSpan)).at_)),(47,PV.ptr 0 0),(48,pI ua),(49,pB (decide ((meetV e2 (⟨ua,uc⟩ : TSpan)).at_ = ua))),(50,pB (decide ((meetV e2 (⟨ua,uc⟩ : TSpan)).at_ = ua)))] (re (w_if rfl (fun c6 => ?_) (fun c6 => ?_))))
       ·try simp only [sB] at c6
        have hg2 := hg e2 (List.mem_of_getElem? he2)
        have eu : spOk ⟨ua,uc⟩ = true := (spOk_iff _).2 (by simp only; omega)
        have hp : (meetOk e2 ⟨ua,uc⟩ && decide ((meetV e2 ⟨ua,uc⟩).at_ = ua)) = true := by simp [g1,c6]
        have hpv := meet_piece hg2 eu hp
        have hcount : (meetV e2 ⟨ua,uc⟩).count = min (e2.at_ + e2.count) (ua + uc) - ua := by rw [hpv]
        have hp2 := hp
        rw [meet_at hg2 eu] at hp2
        have hp3 := hp2
        simp only [Bool.and_eq_true,decide_eq_true_eq] at hp3
        have hxh : ua < e2.at_ + e2.count := hp3.2
        have hxa : idxAt l ua = some j := find_step (fun k x hk hx => by rw [← meet_at (hg x (List.mem_of_getElem? hx)) eu]; exact hno k x hk hx) he2 hp2
        have hmn : min (e2.at_ + e2.count) (ua + uc) = min (e2.at_ + e2.count) (s.at_ + s.count) := by omega
        have hq1 : ua + (meetV e2 ⟨ua,uc⟩).count = min (e2.at_ + e2.count) (s.at_ + s.count) := by omega
        have hq2 : meetV e2 ⟨ua,uc⟩ = ⟨ua,min (e2.at_ + e2.count) (s.at_ + s.count) - ua⟩ := by rw [hpv,hmn]
        refine sr (qo hnt rfl (s_load_ptr tab_133 rfl rfl rfl (nb rfl) ?_))
        refine qo hnt rfl (s_store_ptr tab_133 rfl rfl rfl rfl rfl (nb rfl) ?_)
        refine qa hnt rfl rfl (r_set [(0,pS 2 cl_l eSpan l),(3,PV.ptr 0 0),(8,PV.ref 1 0 none),(9,PV.ptr 2 0),(10,pB true),(45,PV.ptr 4 0),(46,pI ((meetV e2 (⟨ua,uc⟩ : TSpan)).at_)),(47,PV.ptr 0 0),(48,pI ua),(49,pB (decide ((meetV e2 (⟨ua,uc⟩ : TSpan)).at_ = ua)))] [(2,.obj [pI ((meetV e2 (⟨ua,uc⟩ : TSpan)).at_),pI ((meetV e2 (⟨ua,uc⟩ : TSpan)).count)]),(4,.obj [pI ((meetV e2 (⟨ua,uc⟩ : TSpan)).at_),pI ((meetV e2 (⟨ua,uc⟩ : TSpan)).count)]),(3,.obj (cSpan e2)),(0,.obj [pI ua,pI uc]),(1,oB true 2 eSpan os)] 5 ⟨rfl,rfl,rfl,rfl,rfl,rfl,rfl,rfl,rfl,rfl,trivial⟩ rfl rfl (re (w_exit (q_block_pass (by decide) (q_then_exit (q_then_exit (q_block_exit (q_then (w_seq ?_)))))))))
        refine sr (xp hnt 2 [.o 2] [] [(54,pB (!true))] (re (w_if rfl (fun e => absurd e (by decide)) (fun _ => ?_))))
        refine w_skip (q_then (sr (qm hnt rfl rfl (qo hnt rfl (s_load_ptr tab_133 rfl rfl rfl (nb rfl) ?_)))))
        refine qo hnt rfl (s_mkM (f := eSpan) [(meetV e2 (⟨ua,uc⟩ : TSpan))] tab_131 rfl tab_133 ⟨rfl,by decide⟩ (by decide) rfl rfl rfl rfl ?_)
        refine qo hnt rfl (s_appR0 (f := eSpan) (l := os) (xs := [(meetV e2 (⟨ua,uc⟩ : TSpan))]) tab_131 rfl tab_133 ⟨rfl,by decide,by decide⟩ (srcM tab_131 rfl (hM_ref0 (f := eSpan) rfl rfl)) rfl rfl (by (simp; omega)) ?_)
        refine qa hnt rfl rfl (r_set [(0,pS 2 cl_l eSpan l),(3,PV.ptr 0 0),(8,PV.ref 6 0 none),(9,PV.ptr 2 0),(45,PV.ptr 4 0),(46,pI ((meetV e2 (⟨ua,uc⟩ : TSpan)).at_)),(47,PV.ptr 0 0),(48,pI ua),(49,pB (decide ((meetV e2 (⟨ua,uc⟩ : TSpan)).at_ = ua)))] [(6,oB true 2 eSpan (os ++ [(meetV e2 (⟨ua,uc⟩ : TSpan))])),(5,oB true 2 eSpan [(meetV e2 (⟨ua,uc⟩ : TSpan))]),(2,.obj [pI ((meetV e2 (⟨ua,uc⟩ : TSpan)).at_),pI ((meetV e2 (⟨ua,uc⟩ : TSpan)).count)]),(4,.obj [pI ((meetV e2 (⟨ua,uc⟩ : TSpan)).at_),pI ((meetV e2 (⟨ua,uc⟩ : TSpan)).count)]),(3,.obj (cSpan e2)),(0,.obj [pI ua,pI uc])] 7 ⟨rfl,rfl,rfl,rfl,rfl,rfl,rfl,rfl,rfl,trivial⟩ rfl rfl (re (w_R (xm hnt 12 [.o 12] [okI (ua + ((meetV e2 (⟨ua,uc⟩ : TSpan)).count)),okI (uc - ((meetV e2 (⟨ua,uc⟩ : TSpan)).count))] [] 7 [(0,.obj [pI (ua + ((meetV e2 (⟨ua,uc⟩ : TSpan)).count)),pI (uc - ((meetV e2 (⟨ua,uc⟩ : TSpan)).count))]),(6,oB true 2 eSpan (os ++ [(meetV e2 (⟨ua,uc⟩ : TSpan))])),(5,oB true 2 eSpan [(meetV e2 (⟨ua,uc⟩ : TSpan))]),(2,.obj [pI ((meetV e2 (⟨ua,uc⟩ : TSpan)).at_),pI ((meetV e2 (⟨ua,uc⟩ : TSpan)).count)]),(4,.obj [pI ((meetV e2 (⟨ua,uc⟩ : TSpan)).at_),pI ((meetV e2 (⟨ua,uc⟩ : TSpan)).count)]),(3,.obj (cSpan e2))] ?_ (hc := ⟨by unfold okI; (omega),by unfold okI; (omega),trivial⟩)))))
        refine r_end (q_block (q_then (⟨(ua + ((meetV e2 (⟨ua,uc⟩ : TSpan)).count)),(uc - ((meetV e2 (⟨ua,uc⟩ : TSpan)).count)),(os ++ [(meetV e2 (⟨ua,uc⟩ : TSpan))]), ?_, ?_,⟨[(0,0),(1,6)],by rw [hk]; decide,⟨⟨_,rfl,rfl,rfl⟩,⟨_,rfl,rfl,rfl⟩,⟨_,rfl,rfl,rfl⟩,trivial⟩,⟨⟨_,_,rfl,rfl,rfl,rfl⟩,⟨_,_,rfl,rfl,rfl,rfl⟩,trivial⟩,by rw [hk]; decide⟩⟩)))
        ·refine ⟨by omega,by omega,by omega,by simp; omega, ?_⟩
         rw [hcov,covGo_step (e := s.at_ + s.count) (by omega) hxa he2 hxh,map_snoc,hq1,hq2]
        · omega
       try simp only [sB] at c6
       refine w_skip (q_block (q_then (w_R (qo hnt rfl (s_addN (a := j) (b := 1) rfl rfl (by omega) (by omega) (by omega) ?_)))))
       refine qm hnt rfl rfl (re (⟨(j + 1), ?_, ?_,⟨[(0,0),(1,1),(2,2)],by rw [hk]; decide,⟨⟨_,rfl,rfl,rfl⟩,⟨_,rfl,rfl,rfl⟩,⟨_,rfl,rfl,rfl⟩,⟨_,rfl,rfl,rfl⟩,⟨_,rfl,rfl,rfl⟩,⟨_,rfl,rfl,rfl⟩,⟨_,rfl,rfl,rfl⟩,⟨_,rfl,rfl,rfl⟩,trivial⟩,⟨⟨_,_,rfl,rfl,rfl,rfl⟩,⟨_,_,rfl,rfl,rfl,rfl⟩,⟨_,_,rfl,rfl,rfl,rfl⟩,trivial⟩,by rw [hk]; decide⟩⟩))
       ·refine ⟨by omega,fun k x hk hx => ?_⟩
        by_cases hkj : k < j
        · exact hno k x hkj hx
        · obtain rfl : k = j := by omega
          rw [he2] at hx; cases hx; simp_all
       · omega
      have g1' := g1
      try simp only [sB] at g1'
      refine r_eq (s := 44) (y := pB false) rfl (congrArg pB g1) (xp hnt 5 [.o 5] [] [(46,undefP),(47,undefP),(48,undefP),(49,undefP),(50,pB false)] (re (w_if rfl (fun e => absurd e (by decide)) (fun _ => ?_))))
      refine w_skip (q_block (q_then (w_R (qo hnt rfl (s_addN (a := j) (b := 1) rfl rfl (by omega) (by omega) (by omega) ?_)))))
      refine qm hnt rfl rfl (re (⟨(j + 1), ?_, ?_,⟨[(0,0),(1,1),(2,2)],by rw [hk]; decide,⟨⟨_,rfl,rfl,rfl⟩,⟨_,rfl,rfl,rfl⟩,⟨_,rfl,rfl,rfl⟩,⟨_,rfl,rfl,rfl⟩,⟨_,rfl,rfl,rfl⟩,⟨_,rfl,rfl,rfl⟩,⟨_,rfl,rfl,rfl⟩,⟨_,rfl,rfl,rfl⟩,trivial⟩,⟨⟨_,_,rfl,rfl,rfl,rfl⟩,⟨_,_,rfl,rfl,rfl,rfl⟩,⟨_,_,rfl,rfl,rfl,rfl⟩,trivial⟩,by rw [hk]; decide⟩⟩))
      ·refine ⟨by omega,fun k x hk hx => ?_⟩
       by_cases hkj : k < j
       · exact hno k x hkj hx
       · obtain rfl : k = j := by omega
         rw [he2] at hx; cases hx; simp_all
      · omega
     try simp only [sB] at c5
     have eu : spOk ⟨ua,uc⟩ = true := (spOk_iff _).2 (by simp only; omega)
     have hnone : idxAt l ua = none := find_none (fun k x hk hx => by rw [← meet_at (hg x (List.mem_of_getElem? hx)) eu]; exact hno k x (by omega) hx)
     have en : coverL l s = none := by rw [ec,hcov,covGo_none (by omega) hnone]; rfl
     refine w_exit (q_then_exit (q_then_exit (q_block_exit (q_then (w_seq (sr ?_))))))
     refine xp hnt 2 [.o 2] [] [(54,pB (!false))] (re (w_if rfl (fun _ => ?_) (fun e => absurd e (by decide))))
     refine sr (qa hnt rfl rfl (ae hnt rfl rfl (w_le (s := 4) (y := pS 2 false eSpan []) rfl (le_nilS 2 false) (w_le (s := 4) (y := pS 2 false eSpan (coverV l s)) rfl (le_of_eq (congrArg (fun z => pS 2 false eSpan z) (show ([] : List TSpan) = (coverV l s) by (simp [coverV,coverOk,en]; done)))) (w_le (s := 5) (y := pB (coverOk l s)) rfl (le_of_eq (congrArg pB (show false = (coverOk l s) by (simp [coverV,coverOk,en]; done)))) (w_ret (q_then_ret (q_block_ret (q_then_ret ?_)))))))))
     exact q_block_ret (q_then_ret fp)
   try simp only [sB] at c4
   have ee : coverL l s = some os := by rw [ec,hcov,covGo_end (by omega)]; simp
   refine w_exit (q_then_exit (q_then_exit (q_block_exit (q_then (sr ?_)))))
   exact xp hnt 3 [.o 3] [] [(4,PV.ref 1 0 none),(5,pB true)] (re (w_frzM (s := 4) (f := eSpan) rfl rfl view_0 (w_le (s := 4) (y := pS 2 false eSpan (coverV l s)) rfl (le_of_eq (congrArg (fun z => pS 2 false eSpan z) (show os = (coverV l s) by simp [coverV,coverOk,ee]))) (w_le (s := 5) (y := pB (coverOk l s)) rfl (le_of_eq (congrArg pB (show true = (coverOk l s) by simp [coverV,coverOk,ee]))) (w_ret fp)))))
abbrev vSp (w : TWindow) : TSpan := ⟨w.virtual,w.count⟩
abbrev pSp (w : TWindow) : TSpan := ⟨w.physical,w.count⟩
def winR (w : TWindow) : Bool := ((decide (0 ≤ w.space) && decide (w.space ≤ 3)) && spRight (vSp w) 65536) && spRight (pSp w) 512
theorem winR_iff (w : TWindow) : winR w = true ↔ (0 ≤ w.space ∧ w.space ≤ 3) ∧ (0 ≤ w.virtual ∧ 1 ≤ w.count ∧ w.virtual ≤ 65536 ∧ w.count ≤ 65536 - w.virtual) ∧ (0 ≤ w.physical ∧ 1 ≤ w.count ∧ w.physical ≤ 512 ∧ w.count ≤ 512 - w.physical) := by
  simp only [winR,spRight,Bool.and_eq_true,decide_eq_true_eq,and_assoc]
theorem winR_sp {w : TWindow} (h : winR w = true) : spOk (vSp w) = true ∧ spOk (pSp w) = true := by
  have h2 := (winR_iff w).1 h
  exact ⟨(spOk_iff _).2 (by simp only; omega),(spOk_iff _).2 (by simp only; omega)⟩
def ofW (s : Int) (w : TWindow) : Bool := winR w && decide (w.space = s)
def ofL (l : List TWindow) (s : Int) : List TWindow := l.filter (ofW s)
theorem of_snoc_t {l : List TWindow}{s : Int}{i : Nat}{e : TWindow} (he : l[i]? = some e) (h : (winR e && decide (e.space = s)) = true) : ofL (l.take i) s ++ [e] = ofL (l.take (i + 1)) s := by
  have h2 : ofW s e = true := h
  unfold ofL
  rw [List.take_add_one,he,List.filter_append]
  simp [h2]
theorem of_snoc_f {l : List TWindow}{s : Int}{i : Nat}{e : TWindow} (he : l[i]? = some e) (h : (winR e && decide (e.space = s)) = false) : ofL (l.take i) s = ofL (l.take (i + 1)) s := by
  have h2 : ofW s e = false := h
  unfold ofL
  rw [List.take_add_one,he,List.filter_append]
  simp [h2]
theorem ofL_len (l : List TWindow) (s : Int) : (ofL l s).length ≤ l.length := by unfold ofL; exact List.length_filter_le _ _
theorem ofL_mem {l : List TWindow}{s : Int}{w : TWindow} (h : w ∈ ofL l s) : winR w = true ∧ w.space = s ∧ w ∈ l := by
  unfold ofL at h
  rw [List.mem_filter] at h
  simp only [ofW,Bool.and_eq_true,decide_eq_true_eq] at h
  exact ⟨h.2.1,h.2.2,h.1⟩
theorem ofL_get {l : List TWindow}{s : Int}{i : Nat}{w : TWindow} (h : (ofL l s)[i]? = some w) : winR w = true ∧ w.space = s ∧ w ∈ l := ofL_mem (List.mem_of_getElem? h)
theorem covGo_mem (L : List TSpan) (e : Int) : ∀ (n : Nat) (v : Int) (os : List TSpan),(e - v).toNat ≤ n → covGo L e v = some os → ∀ p ∈ os,v ≤ p.at_ ∧ p.at_ + p.count ≤ e ∧ 1 ≤ p.count ∧ ∃ i x,idxAt L p.at_ = some i ∧ L[i]? = some x ∧ x.at_ ≤ p.at_ ∧ p.at_ + p.count ≤ x.at_ + x.count
  | n,v,os,hn,h,p,hp => by
    rw [covGo] at h
    split at h
    · rename_i hv
      split at h
      · cases h
      · rename_i i hi
        split at h
        · rename_i hlt
          simp only [Option.map_eq_some_iff] at h
          obtain ⟨t,h1,rfl⟩ := h
          match n,hn with
          | 0,hn => omega
          | n + 1,hn =>
            rcases List.mem_cons.1 hp with rfl|hp
            · have hi2 := hi
              unfold idxAt at hi2
              rw [List.findIdx?_eq_some_iff_getElem] at hi2
              obtain ⟨hl,hc,_⟩ := hi2
              simp only [Bool.and_eq_true,decide_eq_true_eq] at hc
              have hx : L[i]? = some L[i] := by simp [hl]
              have hg : L.getD i sp0 = L[i] := by simp [List.getD_eq_getElem?_getD,hx]
              rw [hg] at hlt ⊢
              exact ⟨by simp only; omega,by simp only; omega,by simp only; omega,i,L[i],hi,hx,hc.1,by simp only; omega⟩
            · have := covGo_mem L e n _ t (by omega) h1 p hp
              exact ⟨by omega,this.2⟩
        · cases h
    · cases h; cases hp
theorem coverV_mem {L : List TSpan}{s p : TSpan} (hp : p ∈ coverV L s) : spOk s = true ∧ (∀ x ∈ L,spOk x = true) ∧ s.at_ ≤ p.at_ ∧ p.at_ + p.count ≤ s.at_ + s.count ∧ 1 ≤ p.count ∧ ∃ i x,idxAt L p.at_ = some i ∧ L[i]? = some x ∧ x.at_ ≤ p.at_ ∧ p.at_ + p.count ≤ x.at_ + x.count := by
  unfold coverV coverL at hp
  split at hp
  · rename_i h
    cases hc : covGo L (s.at_ + s.count) s.at_ with
    | none => rw [hc] at hp; cases hp
    | some os => rw [hc] at hp; exact ⟨h.1,h.2,covGo_mem L _ _ _ os (Nat.le_refl _) hc p hp⟩
  · cases hp
theorem in_one {x p : TSpan} (hx : spOk x = true) (hp : 0 ≤ p.at_ ∧ p.at_ ≤ 2147483647) : spIn ⟨p.at_,1⟩ x = (decide (x.at_ ≤ p.at_) && decide (p.at_ < x.at_ + x.count)) := by
  rw [Bool.eq_iff_iff,spIn_iff]
  simp only [Bool.and_eq_true,decide_eq_true_eq,hx,true_and]
  have : spOk ⟨p.at_,1⟩ = true := (spOk_iff _).2 (by simp only; omega)
  rw [this]
  simp only [true_and]
  omega
theorem in_piece {x p : TSpan} (h : spIn p x = true) : spIn ⟨p.at_,1⟩ x = true := by
  obtain ⟨h1,h2,h3,h4⟩ := (spIn_iff p x).1 h
  have h5 := (spOk_iff p).1 h1
  exact (spIn_iff _ _).2 ⟨(spOk_iff _).2 (by simp only; omega),h2,by simp only; omega,by simp only; omega⟩
def pieceW (ws : List TWindow) (p : TSpan) : TPiece := match ws.find? (fun w => spIn ⟨p.at_,1⟩ (vSp w)) with
  | some w => ⟨p.at_,w.physical + p.at_ - w.virtual,p.count⟩
  | none => ⟨0,0,0⟩
def covW (l : List TWindow) (s a n : Int) : List TSpan := coverV ((ofL l s).map vSp) ⟨a,n⟩
def mapL (l : List TWindow) (s a n : Int) : List TPiece := (covW l s a n).map (pieceW (ofL l s))
def mapOk (l : List TWindow) (s a n : Int) : Bool := coverOk ((ofL l s).map vSp) ⟨a,n⟩
theorem covW_len (l : List TWindow) (s a n : Int) : (covW l s a n).length ≤ 2147483648 := coverV_length _ _
theorem piece_of {l : List TWindow}{s a n : Int}{p : TSpan} (hp : p ∈ covW l s a n) : ∃ i w,(ofL l s)[i]? = some w ∧ ((ofL l s).map vSp).findIdx? (fun x => spIn ⟨p.at_,1⟩ x) = some i ∧ (∀ j u,j < i → (ofL l s)[j]? = some u → spIn ⟨p.at_,1⟩ (vSp u) = false) ∧
    spIn p (vSp w) = true ∧ pieceW (ofL l s) p = ⟨p.at_,w.physical + p.at_ - w.virtual,p.count⟩ ∧ winR w = true ∧ w.space = s ∧ w ∈ l ∧ w.virtual ≤ p.at_ ∧ p.at_ + p.count ≤ w.virtual + w.count ∧ 1 ≤ p.count ∧ a ≤ p.at_ ∧ p.at_ + p.count ≤ a + n := by
  obtain ⟨h1,h2,h3,h4,h5,i,x,hi,hx,h6,h7⟩ := coverV_mem hp
  have hs := (spOk_iff _).1 h1
  simp only at hs h3 h4
  rw [List.getElem?_map] at hx
  obtain ⟨w,hw,rfl⟩ := Option.map_eq_some_iff.1 hx
  obtain ⟨m1,m2,m3⟩ := ofL_get hw
  have hsp := (winR_sp m1).1
  have hb := (spOk_iff _).1 hsp
  simp only at h6 h7 hb
  have hall : ∀ x ∈ (ofL l s).map vSp,spIn ⟨p.at_,1⟩ x = (decide (x.at_ ≤ p.at_) && decide (p.at_ < x.at_ + x.count)) := fun x hx => in_one (h2 x hx) (by omega)
  have hf : ((ofL l s).map vSp).findIdx? (fun x => spIn ⟨p.at_,1⟩ x) = some i := by
    unfold idxAt at hi
    rw [List.findIdx?_eq_some_iff_getElem] at hi ⊢
    obtain ⟨q1,q2,q3⟩ := hi
    refine ⟨q1,by rw [hall _ (List.getElem_mem _)]; exact q2,fun j hj => ?_⟩
    rw [hall _ (List.getElem_mem _)]
    exact q3 j hj
  have hin1 : spIn ⟨p.at_,1⟩ (vSp w) = true := by rw [in_one hsp (by omega)]; simp only [Bool.and_eq_true,decide_eq_true_eq]; omega
  have hno : ∀ j u,j < i → (ofL l s)[j]? = some u → spIn ⟨p.at_,1⟩ (vSp u) = false := by
    intro j u hj hu
    have hf2 := hf
    rw [List.findIdx?_eq_some_iff_getElem] at hf2
    obtain ⟨q1,q2,q3⟩ := hf2
    have := q3 j hj
    have hg : ((ofL l s).map vSp)[j]? = some (vSp u) := by rw [List.getElem?_map,hu]; rfl
    have hg2 := List.getElem?_eq_some_iff.1 hg
    obtain ⟨_,hg3⟩ := hg2
    rw [hg3] at this
    simpa using this
  have hfi : (ofL l s).find? (fun w => spIn ⟨p.at_,1⟩ (vSp w)) = some w := by
    rw [List.find?_eq_some_iff_getElem]
    obtain ⟨g1,g2⟩ := List.getElem?_eq_some_iff.1 hw
    refine ⟨hin1,i,g1,g2,fun j hj => ?_⟩
    have := hno j ((ofL l s)[j]) hj (by simp [show j < (ofL l s).length by omega])
    simp [this]
  refine ⟨i,w,hw,hf,hno, ?_, ?_,m1,m2,m3,h6,h7,h5,h3,h4⟩
  · exact (spIn_iff _ _).2 ⟨(spOk_iff _).2 (by omega),hsp,h6,h7⟩
  · unfold pieceW; rw [hfi]
theorem piece_found {l : List TWindow}{s a n : Int}{p : TSpan} (hp : p ∈ covW l s a n) {j : Nat}{w : TWindow} (hw : (ofL l s)[j]? = some w) (h : spIn p (vSp w) = true) (hno : ∀ k u,k < j → (ofL l s)[k]? = some u → spIn p (vSp u) = false) :
    pieceW (ofL l s) p = ⟨p.at_,w.physical + p.at_ - w.virtual,p.count⟩ ∧ winR w = true ∧ w.virtual ≤ p.at_ ∧ p.at_ + p.count ≤ w.virtual + w.count ∧ 1 ≤ p.count := by
  obtain ⟨i,u,hu,_,hn,hin,hpc,m1,m2,m3,v1,v2,v3,_⟩ := piece_of hp
  have hij : i = j := by
    rcases Nat.lt_trichotomy i j with h1|h1|h1
    · rw [hno i u h1 hu] at hin; cases hin
    · exact h1
    · have := hn j w h1 hw
      rw [in_piece h] at this; cases this
  subst hij
  rw [hu] at hw
  cases hw
  exact ⟨hpc,m1,v1,v2,v3⟩
theorem piece_there {l : List TWindow}{s a n : Int}{p : TSpan} (hp : p ∈ covW l s a n) (hno : ∀ k u,k < (ofL l s).length → (ofL l s)[k]? = some u → spIn p (vSp u) = false) : False := by
  obtain ⟨i,u,hu,_,hn,hin,_⟩ := piece_of hp
  have := hno i u (List.getElem?_eq_some_iff.1 hu).1 hu
  rw [this] at hin; cases hin
def meetW (a b : TWindow) : Bool := ((meetOk (pSp a) (pSp b) && decide (a.space = b.space)) && winR a) && winR b
def clashW (a b : TWindow) : Bool := meetW a b || (((meetOk (vSp a) (vSp b) && decide (a.space = b.space)) && winR a) && winR b)
def OwnW (l : List TWindow) : Prop := ∀ (i j : Nat) a b,j < i → l[i]? = some a → l[j]? = some b → clashW a b = false
def w0W : TWindow := ⟨0,0,0,0⟩
def ownW (l : List TWindow) : Bool := (List.range l.length).all fun i => (List.range i).all fun j => !(clashW (l.getD i w0W) (l.getD j w0W))
theorem ownW_iff (l : List TWindow) : ownW l = true ↔ OwnW l := by
  unfold ownW OwnW
  simp only [List.all_eq_true,List.mem_range,Bool.not_eq_true']
  constructor
  · intro h i j a b hj ha hb
    have := h i (List.getElem?_eq_some_iff.1 ha).1 j hj
    rw [List.getD_eq_getElem?_getD,List.getD_eq_getElem?_getD,ha,hb] at this
    exact this
  · intro h i hi j hj
    rw [List.getD_eq_getElem?_getD,List.getD_eq_getElem?_getD,List.getElem?_eq_getElem hi,List.getElem?_eq_getElem (show j < l.length by omega)]
    exact h i j _ _ hj (List.getElem?_eq_getElem hi) (List.getElem?_eq_getElem (by omega))
theorem own_yes {l : List TWindow} (h : OwnW l) : ownW l = true := (ownW_iff l).2 h
theorem w_window_virtual (w : TWindow)  :
    T Try.prog 76 [PV.f (eWindow w)] 0 [] (Ret (PV.f (eSpan (vSp w))) 0 []) := by
 refine t_fun tabOk (n := 8) (rs := [.cell 2 120]) Try.func76 rfl rfl rfl rfl (nb rfl) ?_
 intro c hnt hk
 refine sr (qo hnt rfl (s_box rfl rfl ?_))
 refine qo hnt rfl (s_alloc tab_120 ?_)
 refine r_set [(1,PV.ptr 0 0),(2,PV.ptr 1 0)] [(1,.obj [pI 0,pI 0]),(0,.obj (cWindow w))] 2 ⟨rfl,rfl,trivial⟩ rfl rfl (re (sr (xm hnt 6 [.o 6] [] [] 2 [(1,.obj [pI w.virtual,pI w.count]),(0,.obj (cWindow w))] (re (w_leO (n := 1) (ds := cSpan (vSp w)) rfl ⟨le_of_eq (congrArg pI (show w.virtual = ((vSp w).at_) by rfl)),le_of_eq (congrArg pI (show w.count = ((vSp w).count) by rfl)),trivial⟩ ?_)))))
 exact w_ret fp
theorem w_window_physical (w : TWindow)  :
    T Try.prog 105 [PV.f (eWindow w)] 0 [] (Ret (PV.f (eSpan (pSp w))) 0 []) := by
 refine t_fun tabOk (n := 8) (rs := [.cell 2 120]) Try.func105 rfl rfl rfl rfl (nb rfl) ?_
 intro c hnt hk
 refine sr (qo hnt rfl (s_box rfl rfl ?_))
 refine qo hnt rfl (s_alloc tab_120 ?_)
 refine r_set [(1,PV.ptr 0 0),(2,PV.ptr 1 0)] [(1,.obj [pI 0,pI 0]),(0,.obj (cWindow w))] 2 ⟨rfl,rfl,trivial⟩ rfl rfl (re (sr (xm hnt 6 [.o 6] [] [] 2 [(1,.obj [pI w.physical,pI w.count]),(0,.obj (cWindow w))] (re (w_leO (n := 1) (ds := cSpan (pSp w)) rfl ⟨le_of_eq (congrArg pI (show w.physical = ((pSp w).at_) by rfl)),le_of_eq (congrArg pI (show w.count = ((pSp w).count) by rfl)),trivial⟩ ?_)))))
 exact w_ret fp
theorem w_window_Right (w : TWindow)  :
    T Try.prog 94 [PV.f (eWindow w)] 0 [] (Ret (pB (winR w)) 0 []) := by
 refine t_fun tabOk (n := 21) (rs := [.tmp 2]) Try.func94 rfl rfl rfl rfl (nb rfl) ?_
 intro c hnt hk
 refine sr (qo hnt rfl (s_box rfl rfl ?_))
 refine qa hnt rfl rfl (r_set [(1,PV.ptr 0 0)] [(0,.obj (cWindow w))] 1 ⟨rfl,trivial⟩ rfl rfl (re (sr (xp hnt 19 [.o 4,.b 3 [.o 3],.o 1,.b 3 [.o 1,.c (PV.f (eSpan (vSp w))),.c (pB (spRight (vSp w) 65536))],.o 1,.b 3 [.o 1,.c (PV.f (eSpan (pSp w))),.c (pB (spRight (pSp w) 512))],.o 1] [((decide (0 ≤ w.space)) && (decide (w.space ≤ 3))) = true → AllP [T Try.prog 76 [PV.f (eWindow w)] 0 [] (Ret (PV.f (eSpan (vSp w))) 0 []),T Try.prog 104 [PV.f (eSpan (vSp w)),pI 65536] 0 [] (Ret (pB (spRight (vSp w) 65536)) 0 [])],(((decide (0 ≤ w.space)) && (decide (w.space ≤ 3))) && (spRight (vSp w) 65536)) = true → AllP [T Try.prog 105 [PV.f (eWindow w)] 0 [] (Ret (PV.f (eSpan (pSp w))) 0 []),T Try.prog 104 [PV.f (eSpan (pSp w)),pI 512] 0 [] (Ret (pB (spRight (pSp w) 512)) 0 [])]] [(2,pB ((((decide (0 ≤ w.space)) && (decide (w.space ≤ 3))) && (spRight (vSp w) 65536)) && (spRight (pSp w) 512)))] ?_ (hc := ⟨by intro hq; (try simp only [sB] at hq); exact ⟨(w_window_virtual w),(w_span_Right (vSp w) 65536 (by omega)),trivial⟩,by intro hq; (try simp only [sB] at hq); exact ⟨(w_window_physical w),(w_span_Right (pSp w) 512 (by omega)),trivial⟩,trivial⟩)))))
 exact re (w_le (s := 2) (y := pB (winR w)) rfl (le_of_eq (congrArg pB (show ((((decide (0 ≤ w.space)) && (decide (w.space ≤ 3))) && (spRight (vSp w) 65536)) && (spRight (pSp w) 512)) = (winR w) by rfl))) (w_ret fp))
theorem w_burgageref7_Window (w : TWindow)  :
    T Try.prog 89 [PV.f (eWindow w)] 0 [] (Ret (pB (winR w)) 0 []) := by
 refine t_fun tabOk (n := 27) (rs := [.tmp 2]) Try.func89 rfl rfl rfl rfl (nb rfl) ?_
 intro c hnt hk
 refine sr (qo hnt rfl (s_box rfl rfl ?_))
 refine qa hnt rfl rfl (r_set [(1,PV.ptr 0 0)] [(0,.obj (cWindow w))] 1 ⟨rfl,trivial⟩ rfl rfl (re (sr (xp hnt 25 [.o 4,.b 3 [.o 3],.o 1,.b 6 [.o 5,.c (pB (spRight (⟨w.virtual,w.count⟩ : TSpan) 65536))],.o 1,.b 6 [.o 5,.c (pB (spRight (⟨w.physical,w.count⟩ : TSpan) 512))],.o 1] [((decide (0 ≤ w.space)) && (decide (w.space ≤ 3))) = true → AllP [T Try.prog 102 [PV.f (.agg [encI w.virtual,encI w.count]),pI 65536] 0 [] (Ret (pB (spRight (⟨w.virtual,w.count⟩ : TSpan) 65536)) 0 [])],(((decide (0 ≤ w.space)) && (decide (w.space ≤ 3))) && (spRight (⟨w.virtual,w.count⟩ : TSpan) 65536)) = true → AllP [T Try.prog 102 [PV.f (.agg [encI w.physical,encI w.count]),pI 512] 0 [] (Ret (pB (spRight (⟨w.physical,w.count⟩ : TSpan) 512)) 0 [])]] [(2,pB ((((decide (0 ≤ w.space)) && (decide (w.space ≤ 3))) && (spRight (⟨w.virtual,w.count⟩ : TSpan) 65536)) && (spRight (⟨w.physical,w.count⟩ : TSpan) 512)))] ?_ (hc := ⟨by intro hq; (try simp only [sB] at hq); exact ⟨(w_burgageref7_Right (⟨w.virtual,w.count⟩ : TSpan) 65536 (by omega)),trivial⟩,by intro hq; (try simp only [sB] at hq); exact ⟨(w_burgageref7_Right (⟨w.physical,w.count⟩ : TSpan) 512 (by omega)),trivial⟩,trivial⟩)))))
 exact re (w_le (s := 2) (y := pB (winR w)) rfl (le_of_eq (congrArg pB (show ((((decide (0 ≤ w.space)) && (decide (w.space ≤ 3))) && (spRight (⟨w.virtual,w.count⟩ : TSpan) 65536)) && (spRight (⟨w.physical,w.count⟩ : TSpan) 512)) = (winR w) by rfl))) (w_ret fp))
theorem w_window_of (l : List TWindow) (cl_l : Bool) (space : Int) (hl : l.length ≤ 1000) :
    T Try.prog 75 [pS 4 cl_l eWindow l,pI space] 0 [] (Ret (PV.ref 0 0 none) 1 [(0,oB true 4 eWindow (ofL l space))]) := by
 refine t_fun tabOk (n := 28) (rs := [.tmp 4]) Try.func75 rfl rfl rfl rfl (nb rfl) ?_
 intro c hnt hk
 refine sr (ae hnt rfl rfl (sr (ae hnt rfl rfl (w_seq (sr (qm hnt rfl rfl (qo hnt rfl (s_lenM (l := l) tab_23 rfl (hM_sl (f := eWindow) rfl) ?_))))))))
 refine qm hnt rfl rfl (re (w_block (w_adopt (s := 5) (sz := 4) rfl (loop2 (fun (os : List TWindow) (i : Nat) => i ≤ l.length ∧ os = ofL (l.take i) space) (fun (os : List TWindow) (i : Nat) => [(1,pI space),(5,PV.ref 0 0 none),(8,pS 4 cl_l eWindow l),(9,pN l.length),(10,pN i)]) 1 (fun (os : List TWindow) (i : Nat) => [(0,oB true 4 eWindow os)]) (fun (os : List TWindow) (i : Nat) => l.length - i) (([] : List TWindow)) (0) ?_ ⟨[(0,0)],by rw [hk]; decide,⟨⟨_,rfl,rfl,rfl⟩,⟨_,rfl,rfl,rfl⟩,⟨_,rfl,rfl,rfl⟩,⟨_,rfl,rfl,rfl⟩,⟨_,rfl,rfl,rfl⟩,trivial⟩,⟨⟨_,_,rfl,rfl,rfl,rfl⟩,trivial⟩,by rw [hk]; decide⟩ ?_))))
 · exact ⟨by omega,rfl⟩
 ·intro os i hI
  obtain ⟨hi,hos⟩ := hI
  have hol : os.length ≤ 1000 := by rw [hos]; exact Nat.le_trans (ofL_len _ _) (by simp; omega)
  refine sr (qo hnt rfl (s_lss rfl rfl ?_))
  refine re (w_seq (w_if rfl (fun c1 => ?_) (fun c1 => ?_)))
  ·try simp only [sB] at c1
   refine w_skip (q_then (w_seq (w_block (sr ?_))))
   obtain ⟨e1,he1⟩ := get_of_lt l (i := i) (by omega)
   refine qo hnt rfl (s_iaM (q := i) (b := e1) (f := eWindow) tab_23 rfl tab_42 rfl rfl (by omega) rfl he1 ?_)
   refine xm hnt 3 [.o 3] [] [(7,PV.ptr 1 0)] 2 [(1,.obj (cWindow e1)),(0,oB true 4 eWindow os)] (re (sr (xp hnt 1 [.o 1] [] [(14,PV.f (eWindow e1))] (qo hnt rfl (s_callF rfl rfl rfl (w_window_Right e1) rfl ?_)))))
   refine xp hnt 6 [.o 1,.b 4 [.o 4]] [] [(21,pB ((winR e1) && (decide (e1.space = space))))] (re (w_if rfl (fun c2 => ?_) (fun c2 => ?_)))
   ·have c2_ := c2
    try simp only [sB] at c2
    refine w_R (xp hnt 2 [.o 2] [] [(22,PV.ref 0 0 none),(23,PV.f (eWindow e1))] (qo hnt rfl (s_mkM (f := eWindow) [e1] tab_23 rfl tab_42 ⟨rfl,by decide⟩ (by decide) rfl rfl rfl rfl ?_)))
    refine qo hnt rfl (s_appR0 (f := eWindow) (l := os) (xs := [e1]) tab_23 rfl tab_42 ⟨rfl,by decide,by decide⟩ (srcM tab_23 rfl (hM_ref0 (f := eWindow) rfl rfl)) rfl rfl (by (simp; omega)) ?_)
    refine qa hnt rfl rfl (r_set [(1,pI space),(5,PV.ref 3 0 none),(8,pS 4 cl_l eWindow l),(9,pN l.length),(10,pN i)] [(3,oB true 4 eWindow (os ++ [e1])),(2,oB true 4 eWindow [e1]),(1,.obj (cWindow e1))] 4 ⟨rfl,rfl,rfl,rfl,rfl,trivial⟩ rfl rfl (r_end (q_block (q_then (w_R (qo hnt rfl (s_addN (a := i) (b := 1) rfl rfl (by omega) (by omega) (by omega) ?_)))))))
    refine qm hnt rfl rfl (re (⟨(os ++ [e1]),(i + 1), ?_, ?_,⟨[(0,3)],by rw [hk]; decide,⟨⟨_,rfl,rfl,rfl⟩,⟨_,rfl,rfl,rfl⟩,⟨_,rfl,rfl,rfl⟩,⟨_,rfl,rfl,rfl⟩,⟨_,rfl,rfl,rfl⟩,trivial⟩,⟨⟨_,_,rfl,rfl,rfl,rfl⟩,trivial⟩,by rw [hk]; decide⟩⟩))
    ·(exact ⟨by omega,by rw [hos]; exact of_snoc_t he1 c2_⟩)
    · omega
   have c2_ := c2
   try simp only [sB] at c2
   refine w_skip (q_block (q_then (w_R (qo hnt rfl (s_addN (a := i) (b := 1) rfl rfl (by omega) (by omega) (by omega) ?_)))))
   refine qm hnt rfl rfl (re (⟨(os),(i + 1), ?_, ?_,⟨[(0,0)],by rw [hk]; decide,⟨⟨_,rfl,rfl,rfl⟩,⟨_,rfl,rfl,rfl⟩,⟨_,rfl,rfl,rfl⟩,⟨_,rfl,rfl,rfl⟩,⟨_,rfl,rfl,rfl⟩,trivial⟩,⟨⟨_,_,rfl,rfl,rfl,rfl⟩,trivial⟩,by rw [hk]; decide⟩⟩))
   ·(exact ⟨by omega,by rw [hos]; exact of_snoc_f he1 c2_⟩)
   · omega
  try simp only [sB] at c1
  have hoe : ofL (l.take i) space = ofL l space := by rw [List.take_of_length_le (by omega)]
  refine w_exit (q_then_exit (q_then_exit (q_block_exit (q_then (sr (qm hnt rfl rfl (ae hnt rfl rfl (w_H (H' := [(0,oB true 4 eWindow (ofL l space))]) (congrArg (fun z => ([(0,oB true 4 eWindow z)] : Heap)) (show os = ofL l space by rw [hos,hoe])) (w_ret ?_)))))))))
  exact fin_names (nx1 := 1) (H1 := [(0,oB true 4 eWindow (ofL l space))]) [(0,0)] (ret_tmp rfl ret_nil) rfl (by decide) ⟨⟨_,_,rfl,rfl,rfl,rfl⟩,trivial⟩ (by decide) rfl ⟨rfl,rfl,rfl⟩
theorem w_window_Map_1 (s : TSpan) (pa : Int) (pc : Int)  :
    T Try.prog 79 [PV.f (eSpan s),PV.ptr 0 0] 1 [(0,.obj [pI pa,pI pc])] (Ret (pB (spIn ⟨pa,1⟩ s)) 1 [(0,.obj [pI pa,pI pc])]) := by
 refine t_fun tabOk (n := 9) (rs := [.tmp 3]) Try.func79 rfl rfl rfl rfl (nb rfl) ?_
 intro c hnt hk
 refine sr (qo hnt rfl (s_box rfl rfl ?_))
 refine qa hnt rfl rfl (r_set [(1,PV.ptr 0 0),(2,PV.ptr 1 0)] [(1,.obj (cSpan s)),(0,.obj [pI pa,pI pc])] 2 ⟨rfl,rfl,trivial⟩ rfl rfl (re (sr (xp hnt 4 [.o 4] [] [(6,PV.f (.agg [encI pa,encI 1])),(7,PV.f (eSpan s))] (qo hnt rfl (s_callF rfl rfl rfl (w_span_In (⟨pa,1⟩ : TSpan) s) rfl ?_))))))
 refine ae hnt rfl rfl (w_le (s := 3) (y := pB (spIn ⟨pa,1⟩ s)) rfl (le_of_eq (congrArg pB (show (spIn (⟨pa,1⟩ : TSpan) s) = (spIn ⟨pa,1⟩ s) by simp [*]))) (w_ret ?_))
 exact fin_names (nx1 := 1) (H1 := [(0,.obj [pI pa,pI pc])]) [(0,0)] (ret_tmp rfl ret_nil) rfl (by decide) ⟨⟨_,_,rfl,rfl,rfl,rfl⟩,trivial⟩ (by decide) rfl ⟨rfl,rfl,rfl⟩
theorem w_slices_IndexFunc_span_Span_span_Span_c3 (s : List TSpan) (cl_s : Bool) (pa : Int) (pc : Int) (hs : s.length ≤ 140737488351232) :
    T Try.prog 78 [pS 2 cl_s eSpan s,PV.clo (.func 79) [PV.ptr 0 0]] 1 [(0,.obj [pI pa,pI pc])] (Ret (pI (idxI (s.findIdx? fun x => (spIn ⟨pa,1⟩ x)))) 1 [(0,.obj [pI pa,pI pc])]) := by
 refine t_fun tabOk (n := 19) (rs := [.tmp 4]) Try.func78 rfl rfl rfl rfl (nb rfl) ?_
 intro c hnt hk
 refine sr (ae hnt rfl rfl (w_seq (sr (qm hnt rfl rfl (qo hnt rfl (s_lenM (l := s) tab_118 rfl (hM_sl (f := eSpan) rfl) ?_))))))
 refine qm hnt rfl rfl (re (w_block (loop1 (fun (i : Nat) => i ≤ s.length ∧ ∀ j x,j < i → s[j]? = some x → (spIn ⟨pa,1⟩ x) = false) (fun (i : Nat) => [(0,pS 2 cl_s eSpan s),(1,PV.clo (.func 79) [PV.ptr 0 0]),(7,pN s.length),(8,pN i)]) 1 (fun (i : Nat) => [(0,.obj [pI pa,pI pc])]) (fun (i : Nat) => s.length - i) (0) ?_ ⟨[(0,0)],by rw [hk]; decide,⟨⟨_,rfl,rfl,rfl⟩,⟨_,rfl,rfl,rfl⟩,⟨_,rfl,rfl,rfl⟩,⟨_,rfl,rfl,rfl⟩,trivial⟩,⟨⟨_,_,rfl,rfl,rfl,rfl⟩,trivial⟩,by rw [hk]; decide⟩ ?_)))
 · exact ⟨Nat.zero_le _,fun j x hj => by omega⟩
 ·intro i hI
  obtain ⟨hi,ht⟩ := hI
  refine sr (qo hnt rfl (s_lss rfl rfl ?_))
  refine re (w_seq (w_if rfl (fun c1 => ?_) (fun c1 => ?_)))
  ·try simp only [sB] at c1
   refine w_skip (q_then (w_seq (w_block (sr (xp hnt 2 [.o 2] [] [(5,pN i)] ?_)))))
   refine re (sr (qm hnt rfl rfl (qm hnt rfl rfl (qm hnt rfl rfl ?_))))
   obtain ⟨e1,he1⟩ := get_of_lt s (i := i) (by omega)
   refine qo hnt rfl (s_iaM (q := i) (b := e1) (f := eSpan) tab_118 rfl tab_120 rfl rfl (by omega) rfl he1 ?_)
   refine qo hnt rfl (s_load_ro tab_120 rfl rfl rfl ?_)
   refine qo hnt rfl (s_callK 1 (pB (spIn ⟨pa,1⟩ e1)) [(0,.obj [pI pa,pI pc])] [0] (w_window_Map_1 e1 pa pc) ?_)
   refine r_set [(0,pS 2 cl_s eSpan s),(1,PV.clo (.func 79) [PV.ptr 0 0]),(5,pN i),(7,pN s.length),(8,pN i),(16,pB (spIn ⟨pa,1⟩ e1))] [(0,.obj [pI pa,pI pc])] 1 ⟨rfl,rfl,rfl,rfl,rfl,rfl,trivial⟩ rfl rfl (re (w_if rfl (fun c2 => ?_) (fun c2 => ?_)))
   ·have c2_ := c2
    try simp only [sB] at c2
    refine sr (xp hnt 2 [.o 2] [] [(4,pN i)] (re (w_le (s := 4) (y := pI (idxI (s.findIdx? fun x => (spIn ⟨pa,1⟩ x)))) rfl (le_of_eq (congrArg pI (show ((i : Nat) : Int) = (idxI (s.findIdx? fun x => (spIn ⟨pa,1⟩ x))) by rw [find_step (p := fun x => (spIn ⟨pa,1⟩ x)) ht he1 c2_]))) (w_ret (q_block_ret ?_)))))
    refine q_then_ret (q_then_ret (q_block_ret (q_then_ret ?_)))
    exact fin_names (nx1 := 1) (H1 := [(0,.obj [pI pa,pI pc])]) [(0,0)] (ret_tmp rfl ret_nil) rfl (by decide) ⟨⟨_,_,rfl,rfl,rfl,rfl⟩,trivial⟩ (by decide) rfl ⟨rfl,rfl,rfl⟩
   have c2_ := c2
   try simp only [sB] at c2
   refine w_skip (q_block (q_then (w_R (qo hnt rfl (s_addN (a := i) (b := 1) rfl rfl (by omega) (by omega) (by omega) ?_)))))
   refine qm hnt rfl rfl (re (⟨(i + 1), ?_, ?_,⟨[(0,0)],by rw [hk]; decide,⟨⟨_,rfl,rfl,rfl⟩,⟨_,rfl,rfl,rfl⟩,⟨_,rfl,rfl,rfl⟩,⟨_,rfl,rfl,rfl⟩,trivial⟩,⟨⟨_,_,rfl,rfl,rfl,rfl⟩,trivial⟩,by rw [hk]; decide⟩⟩))
   ·refine ⟨by omega,fun j x hj hx => ?_⟩
    by_cases hji : j < i
    · exact ht j x hji hx
    · obtain rfl : j = i := by omega
      rw [he1] at hx; cases hx; exact c2_
   · omega
  try simp only [sB] at c1
  refine w_exit (q_then_exit (q_then_exit (q_block_exit (q_then (sr (ae hnt rfl rfl (w_le (s := 4) (y := pI (idxI (s.findIdx? fun x => (spIn ⟨pa,1⟩ x)))) rfl (le_of_eq (congrArg pI (show (-1) = (idxI (s.findIdx? fun x => (spIn ⟨pa,1⟩ x))) by rw [find_none (p := fun x => (spIn ⟨pa,1⟩ x)) (fun j x hj hx => ht j x (by omega) hx)]))) (w_ret ?_))))))))
  exact fin_names (nx1 := 1) (H1 := [(0,.obj [pI pa,pI pc])]) [(0,0)] (ret_tmp rfl ret_nil) rfl (by decide) ⟨⟨_,_,rfl,rfl,rfl,rfl⟩,trivial⟩ (by decide) rfl ⟨rfl,rfl,rfl⟩
theorem w_window_Map (l : List TWindow) (cl_l : Bool) (space : Int) (a : Int) (n : Int) (hl : l.length ≤ 1000) :
    T Try.prog 60 [pS 4 cl_l eWindow l,pI space,pI a,pI n] 0 [] (Ret (PV.tup [pS 3 true ePiece (mapL l space a n),pB (mapOk l space a n)]) 0 []) := by
 refine t_fun tabOk (n := 78) (rs := [.tmp 8,.tmp 9]) Try.func60 rfl rfl rfl rfl (nb rfl) ?_
 intro c hnt hk
 refine sr (xp hnt 2 [.o 2] [] [] (re (sr (qm hnt rfl rfl (qm hnt rfl rfl ?_)))))
 refine qo hnt rfl (s_callK 1 (PV.ref 0 0 none) [(0,oB true 4 eWindow (ofL l space))] [] (w_window_of l cl_l space (by omega)) ?_)
 refine qa hnt rfl rfl (r_set [(2,pI a),(3,pI n),(10,PV.ref 0 0 none)] [(0,oB true 4 eWindow (ofL l space))] 1 ⟨rfl,rfl,rfl,trivial⟩ rfl rfl (re (sr (ae hnt rfl rfl (w_seq (w_seq ?_))))))
 have hle := ofL_len l space
 refine w_R (qm hnt rfl rfl (qo hnt rfl (s_lenM (l := ofL l space) tab_23 rfl (hM_ref0 (f := eWindow) rfl rfl) ?_)))
 refine qm hnt rfl rfl (re (w_block (w_adopt (s := 11) (sz := 2) rfl (loop2 (fun (os : List TSpan) (i : Nat) => i ≤ (ofL l space).length ∧ os = ((ofL l space).take i).map vSp) (fun (os : List TSpan) (i : Nat) => [(2,pI a),(3,pI n),(10,PV.ref 1 0 none),(11,PV.ref 0 0 none),(23,PV.ref 1 0 none),(24,pN ((ofL l space).length)),(25,pN i)]) 2 (fun (os : List TSpan) (i : Nat) => [(0,oB true 2 eSpan os),(1,oB true 4 eWindow (ofL l space))]) (fun (os : List TSpan) (i : Nat) => (ofL l space).length - i) (([] : List TSpan)) (0) ?_ ⟨[(0,1),(1,0)],by rw [hk]; decide,⟨⟨_,rfl,rfl,rfl⟩,⟨_,rfl,rfl,rfl⟩,⟨_,rfl,rfl,rfl⟩,⟨_,rfl,rfl,rfl⟩,⟨_,rfl,rfl,rfl⟩,⟨_,rfl,rfl,rfl⟩,⟨_,rfl,rfl,rfl⟩,trivial⟩,⟨⟨_,_,rfl,rfl,rfl,rfl⟩,⟨_,_,rfl,rfl,rfl,rfl⟩,trivial⟩,by rw [hk]; decide⟩ ?_))))
 · exact ⟨by omega,rfl⟩
 ·intro os i hI
  obtain ⟨hi,hos⟩ := hI
  have hol : os.length ≤ 1000 := by rw [hos]; simp; omega
  refine sr (qo hnt rfl (s_lss rfl rfl ?_))
  refine re (w_seq (w_if rfl (fun c1 => ?_) (fun c1 => ?_)))
  ·try simp only [sB] at c1
   refine w_skip (q_then (w_seq (w_block (sr (qo hnt rfl (s_iaR0 (q := i) (f := eWindow) (l := ofL l space) tab_23 rfl tab_42 rfl rfl (by omega) rfl rfl (by omega) ?_))))))
   obtain ⟨e1,he1⟩ := get_of_lt (ofL l space) (i := i) (by omega)
   refine qo hnt rfl (s_ldA (b := e1) tab_42 rfl rfl rfl he1 rfl rfl ?_)
   refine qo hnt rfl (s_alloc tab_42 ?_)
   refine qo hnt rfl (s_store_ptr tab_42 rfl rfl rfl rfl rfl (nb rfl) ?_)
   refine r_set [(2,pI a),(3,pI n),(10,PV.ref 1 0 none),(11,PV.ref 0 0 none),(13,PV.ptr 2 0),(23,PV.ref 1 0 none),(24,pN ((ofL l space).length)),(25,pN i)] [(2,.obj (cWindow e1)),(0,oB true 2 eSpan os),(1,oB true 4 eWindow (ofL l space))] 3 ⟨rfl,rfl,rfl,rfl,rfl,rfl,rfl,rfl,trivial⟩ rfl rfl (re (w_R (xp hnt 2 [.o 2] [] [(29,PV.ref 0 0 none),(30,PV.f (eWindow e1))] (qo hnt rfl (s_callF rfl rfl rfl (w_window_virtual e1) rfl ?_)))))
   refine qo hnt rfl (s_mkM (f := eSpan) [vSp e1] tab_118 rfl tab_120 ⟨rfl,by decide⟩ (by decide) rfl rfl rfl rfl ?_)
   refine qo hnt rfl (s_appR0 (f := eSpan) (l := os) (xs := [vSp e1]) tab_118 rfl tab_120 ⟨rfl,by decide,by decide⟩ (srcM tab_118 rfl (hM_ref0 (f := eSpan) rfl rfl)) rfl rfl (by (simp; omega)) ?_)
   refine qa hnt rfl rfl (r_set [(2,pI a),(3,pI n),(10,PV.ref 1 0 none),(11,PV.ref 4 0 none),(23,PV.ref 1 0 none),(24,pN ((ofL l space).length)),(25,pN i)] [(4,oB true 2 eSpan (os ++ [vSp e1])),(3,oB true 2 eSpan [vSp e1]),(2,.obj (cWindow e1)),(1,oB true 4 eWindow (ofL l space))] 5 ⟨rfl,rfl,rfl,rfl,rfl,rfl,rfl,trivial⟩ rfl rfl (r_end (q_block (q_then (w_R (qo hnt rfl (s_addN (a := i) (b := 1) rfl rfl (by omega) (by omega) (by omega) ?_)))))))
   refine qm hnt rfl rfl (re (⟨(os ++ [vSp e1]),(i + 1), ?_, ?_,⟨[(0,4),(1,1)],by rw [hk]; decide,⟨⟨_,rfl,rfl,rfl⟩,⟨_,rfl,rfl,rfl⟩,⟨_,rfl,rfl,rfl⟩,⟨_,rfl,rfl,rfl⟩,⟨_,rfl,rfl,rfl⟩,⟨_,rfl,rfl,rfl⟩,⟨_,rfl,rfl,rfl⟩,trivial⟩,⟨⟨_,_,rfl,rfl,rfl,rfl⟩,⟨_,_,rfl,rfl,rfl,rfl⟩,trivial⟩,by rw [hk]; decide⟩⟩))
   ·exact ⟨by omega,by rw [hos,List.take_add_one,he1]; simp⟩
   · omega
  try simp only [sB] at c1
  refine w_exit (q_then_exit (q_then_exit (q_block_exit (q_then (w_seq ?_)))))
  have hie : i = (ofL l space).length := by omega
  refine w_H (H' := [(0,oB true 2 eSpan ((ofL l space).map vSp)),(1,oB true 4 eWindow (ofL l space))]) (congrArg (fun z => ([(0,oB true 2 eSpan z),(1,oB true 4 eWindow (ofL l space))] : Heap)) (show os = ((ofL l space).map vSp) by rw [hos,hie,List.take_length])) (w_R (xp hnt 4 [.o 4] [] [(36,PV.ref 0 0 none),(39,PV.f (.agg [encI a,encI n]))] (qo hnt rfl (s_callK 2 (PV.tup [pS 2 false eSpan (coverV ((ofL l space).map vSp) (⟨a,n⟩ : TSpan)),pB (coverOk ((ofL l space).map vSp) (⟨a,n⟩ : TSpan))]) [(0,oB false 2 eSpan ((ofL l space).map vSp)),(1,oB true 4 eWindow (ofL l space))] [] (w_span_Cover ((ofL l space).map vSp) false (⟨a,n⟩ : TSpan) (by rw [List.length_map]; omega)) ?_))))
  refine qm hnt rfl rfl (qo hnt rfl (s_extract rfl rfl ?_))
  refine qo hnt rfl (s_extract rfl rfl ?_)
  refine qa hnt rfl rfl (qa hnt rfl rfl (r_set [(10,PV.ref 1 0 none),(11,PV.ref 0 0 none),(14,pS 2 false eSpan (coverV ((ofL l space).map vSp) (⟨a,n⟩ : TSpan))),(15,pB (coverOk ((ofL l space).map vSp) (⟨a,n⟩ : TSpan)))] [(0,oB false 2 eSpan ((ofL l space).map vSp)),(1,oB true 4 eWindow (ofL l space))] 2 ⟨rfl,rfl,rfl,rfl,trivial⟩ rfl rfl (re (w_seq (w_eq (s := 14) (y := pS 2 false eSpan (covW l space a n)) rfl (congrArg (fun z => pS 2 false eSpan z) (show (coverV ((ofL l space).map vSp) (⟨a,n⟩ : TSpan)) = (covW l space a n) by rfl)) (w_eq (s := 15) (y := pB (mapOk l space a n)) rfl (congrArg pB (show (coverOk ((ofL l space).map vSp) (⟨a,n⟩ : TSpan)) = (mapOk l space a n) by rfl)) ?_))))))
  have hcl := covW_len l space a n
  refine w_R (ae hnt rfl rfl (w_seq (sr (qm hnt rfl rfl (qo hnt rfl (s_lenM (l := covW l space a n) tab_118 rfl (hM_sl (f := eSpan) rfl) ?_))))))
  refine qm hnt rfl rfl (re (w_block (w_adopt (s := 16) (sz := 3) rfl (loop2 (fun (os : List TPiece) (j : Nat) => j ≤ (covW l space a n).length ∧ os = ((covW l space a n).take j).map (pieceW (ofL l space))) (fun (os : List TPiece) (j : Nat) => [(10,PV.ref 1 0 none),(11,PV.ref 2 0 none),(15,pB (mapOk l space a n)),(16,PV.ref 0 0 none),(43,pS 2 false eSpan (covW l space a n)),(44,pN ((covW l space a n).length)),(45,pN j)]) 3 (fun (os : List TPiece) (j : Nat) => [(0,oB true 3 ePiece os),(1,oB true 4 eWindow (ofL l space)),(2,oB false 2 eSpan ((ofL l space).map vSp))]) (fun (os : List TPiece) (j : Nat) => (covW l space a n).length - j) (([] : List TPiece)) (0) ?_ ⟨[(0,2),(1,1),(2,0)],by rw [hk]; decide,⟨⟨_,rfl,rfl,rfl⟩,⟨_,rfl,rfl,rfl⟩,⟨_,rfl,rfl,rfl⟩,⟨_,rfl,rfl,rfl⟩,⟨_,rfl,rfl,rfl⟩,⟨_,rfl,rfl,rfl⟩,⟨_,rfl,rfl,rfl⟩,trivial⟩,⟨⟨_,_,rfl,rfl,rfl,rfl⟩,⟨_,_,rfl,rfl,rfl,rfl⟩,⟨_,_,rfl,rfl,rfl,rfl⟩,trivial⟩,by rw [hk]; decide⟩ ?_))))
  · exact ⟨by omega,rfl⟩
  ·intro os j hI
   obtain ⟨hj,hos2⟩ := hI
   have hol : os.length ≤ 2147483648 := by rw [hos2]; simp; omega
   refine sr (qo hnt rfl (s_lss rfl rfl ?_))
   refine re (w_seq (w_if rfl (fun c2 => ?_) (fun c2 => ?_)))
   ·try simp only [sB] at c2
    refine w_skip (q_then (w_seq (w_block (sr ?_))))
    obtain ⟨e2,he2⟩ := get_of_lt (covW l space a n) (i := j) (by omega)
    refine qo hnt rfl (s_iaM (q := j) (b := e2) (f := eSpan) tab_118 rfl tab_120 rfl rfl (by omega) rfl he2 ?_)
    refine qo hnt rfl (s_load_ro tab_120 rfl rfl rfl ?_)
    refine qo hnt rfl (s_alloc tab_120 ?_)
    refine qo hnt rfl (s_store_ptr tab_120 rfl rfl rfl rfl rfl (nb rfl) ?_)
    refine r_set [(10,PV.ref 1 0 none),(11,PV.ref 2 0 none),(15,pB (mapOk l space a n)),(16,PV.ref 0 0 none),(18,PV.ptr 3 0),(43,pS 2 false eSpan (covW l space a n)),(44,pN ((covW l space a n).length)),(45,pN j)] [(3,.obj (cSpan e2)),(0,oB true 3 ePiece os),(1,oB true 4 eWindow (ofL l space)),(2,oB false 2 eSpan ((ofL l space).map vSp))] 4 ⟨rfl,rfl,rfl,rfl,rfl,rfl,rfl,rfl,trivial⟩ rfl rfl (re (sr (qm hnt rfl rfl (qo hnt rfl (s_makeFunc rfl rfl ?_)))))
    refine qo hnt rfl (s_callK 4 (pI (idxI (((ofL l space).map vSp).findIdx? fun x => (spIn ⟨e2.at_,1⟩ x)))) [(3,.obj (cSpan e2)),(2,oB false 2 eSpan ((ofL l space).map vSp)),(0,oB true 3 ePiece os),(1,oB true 4 eWindow (ofL l space))] [3] (w_slices_IndexFunc_span_Span_span_Span_c3 ((ofL l space).map vSp) false e2.at_ e2.count (by rw [List.length_map]; omega)) ?_)
    refine qa hnt rfl rfl (r_set [(10,PV.ref 1 0 none),(11,PV.ref 2 0 none),(15,pB (mapOk l space a n)),(16,PV.ref 0 0 none),(18,PV.ptr 3 0),(19,pI (idxI (((ofL l space).map vSp).findIdx? fun x => (spIn ⟨e2.at_,1⟩ x)))),(43,pS 2 false eSpan (covW l space a n)),(44,pN ((covW l space a n).length)),(45,pN j)] [(3,.obj (cSpan e2)),(2,oB false 2 eSpan ((ofL l space).map vSp)),(0,oB true 3 ePiece os),(1,oB true 4 eWindow (ofL l space))] 4 ⟨rfl,rfl,rfl,rfl,rfl,rfl,rfl,rfl,rfl,trivial⟩ rfl rfl (re ?_))
    obtain ⟨ii,w,hw,hfi,hno,hin,hpc,m1,m2,m3,v1,v2,v3,v4,v5⟩ := piece_of (List.mem_of_getElem? he2)
    have hwb := (winR_iff w).1 m1
    have hil := (List.getElem?_eq_some_iff.1 hw).1
    refine w_eq (s := 19) (y := pN ii) rfl (congrArg pI (show (idxI (((ofL l space).map vSp).findIdx? fun x => (spIn ⟨e2.at_,1⟩ x))) = ((ii : Nat) : Int) by rw [hfi])) (wdr hnt (xq 5 [.o 5] [] (xk [(55,PV.ref 1 0 none),(56,pN ii)] [(1,oB true 4 eWindow (ofL l space))] [] [(1,oB true 4 eWindow (ofL l space))] [(3,.obj (cSpan e2)),(2,oB false 2 eSpan ((ofL l space).map vSp)),(0,oB true 3 ePiece os),(1,oB true 4 eWindow (ofL l space))] (s_iaR0 (q := ii) (f := eWindow) (l := ofL l space) tab_23 rfl tab_42 rfl rfl (by omega) rfl rfl (by omega) ⟨rfl,rfl,rfl⟩) ?_ (hs := ⟨rfl,trivial⟩))))
    refine xq 1 [.o 1] [] (xk [(58,PV.ep 1 ii 2)] [(1,oB true 4 eWindow (ofL l space))] [] [(1,oB true 4 eWindow (ofL l space))] [(3,.obj (cSpan e2)),(2,oB false 2 eSpan ((ofL l space).map vSp)),(0,oB true 3 ePiece os),(1,oB true 4 eWindow (ofL l space))] (s_ldM (b := w) (f := eWindow) tab_3 rfl rfl rfl rfl hw rfl ⟨rfl,rfl,rfl⟩) ?_ (hs := ⟨rfl,trivial⟩))
    refine xq 5 [.o 5] [okI (w.physical + e2.at_)] ?_ (hc := ⟨by unfold okI; (omega),trivial⟩)
    refine xk [(63,PV.ref 1 0 none),(64,pN ii)] [(1,oB true 4 eWindow (ofL l space))] [] [(1,oB true 4 eWindow (ofL l space))] [(3,.obj (cSpan e2)),(2,oB false 2 eSpan ((ofL l space).map vSp)),(0,oB true 3 ePiece os),(1,oB true 4 eWindow (ofL l space))] (s_iaR0 (q := ii) (f := eWindow) (l := ofL l space) tab_23 rfl tab_42 rfl rfl (by omega) rfl rfl (by omega) ⟨rfl,rfl,rfl⟩) ?_ (hs := ⟨rfl,trivial⟩)
    refine xq 1 [.o 1] [] (xk [(66,PV.ep 1 ii 1)] [(1,oB true 4 eWindow (ofL l space))] [] [(1,oB true 4 eWindow (ofL l space))] [(3,.obj (cSpan e2)),(2,oB false 2 eSpan ((ofL l space).map vSp)),(0,oB true 3 ePiece os),(1,oB true 4 eWindow (ofL l space))] (s_ldM (b := w) (f := eWindow) tab_3 rfl rfl rfl rfl hw rfl ⟨rfl,rfl,rfl⟩) ?_ (hs := ⟨rfl,trivial⟩))
    refine xq 4 [.o 4] [okI ((w.physical + e2.at_) - w.virtual)] ?_ (hc := ⟨by unfold okI; (omega),trivial⟩)
    refine xk [(71,PV.f (.agg [encI e2.at_,encI ((w.physical + e2.at_) - w.virtual),encI e2.count]))] [] [] [(4,oB true 3 ePiece [(⟨e2.at_,(w.physical + e2.at_) - w.virtual,e2.count⟩ : TPiece)])] [(4,oB true 3 ePiece [(⟨e2.at_,(w.physical + e2.at_) - w.virtual,e2.count⟩ : TPiece)]),(3,.obj (cSpan e2)),(2,oB false 2 eSpan ((ofL l space).map vSp)),(0,oB true 3 ePiece os),(1,oB true 4 eWindow (ofL l space))] (s_mkM (f := ePiece) [(⟨e2.at_,(w.physical + e2.at_) - w.virtual,e2.count⟩ : TPiece)] tab_79 rfl tab_83 ⟨rfl,by decide⟩ (by decide) rfl rfl rfl rfl ⟨rfl,rfl,rfl⟩) (xk [(52,PV.ref 0 0 none),(72,PV.ref 4 0 none)] [(4,oB true 3 ePiece [(⟨e2.at_,(w.physical + e2.at_) - w.virtual,e2.count⟩ : TPiece)])] [(0,oB true 3 ePiece os)] [(5,oB true 3 ePiece (os ++ [(⟨e2.at_,(w.physical + e2.at_) - w.virtual,e2.count⟩ : TPiece)])),(4,oB true 3 ePiece [(⟨e2.at_,(w.physical + e2.at_) - w.virtual,e2.count⟩ : TPiece)])] [(5,oB true 3 ePiece (os ++ [(⟨e2.at_,(w.physical + e2.at_) - w.virtual,e2.count⟩ : TPiece)])),(4,oB true 3 ePiece [(⟨e2.at_,(w.physical + e2.at_) - w.virtual,e2.count⟩ : TPiece)]),(3,.obj (cSpan e2)),(2,oB false 2 eSpan ((ofL l space).map vSp)),(1,oB true 4 eWindow (ofL l space))] (s_appR0 (f := ePiece) (l := os) (xs := [(⟨e2.at_,(w.physical + e2.at_) - w.virtual,e2.count⟩ : TPiece)]) tab_79 rfl tab_83 ⟨rfl,by decide,by decide⟩ (srcM tab_79 rfl (hM_ref0 (f := ePiece) rfl rfl)) rfl rfl (by (simp; omega)) ⟨rfl,rfl,rfl⟩) ?_ (hs := ⟨rfl,trivial⟩))
    refine xq 1 [.o 1] [] (xe [(10,PV.ref 1 0 none),(11,PV.ref 2 0 none),(15,pB (mapOk l space a n)),(16,PV.ref 5 0 none),(43,pS 2 false eSpan (covW l space a n)),(44,pN ((covW l space a n).length)),(45,pN j)] (r_end (q_block (q_then (w_R ?_)))))
    refine qo hnt rfl (s_addN (a := j) (b := 1) rfl rfl (by omega) (by omega) (by omega) ?_)
    refine qm hnt rfl rfl (re (⟨(os ++ [(⟨e2.at_,(w.physical + e2.at_) - w.virtual,e2.count⟩ : TPiece)]),(j + 1), ?_, ?_,⟨[(0,5),(1,1),(2,2)],by rw [hk]; decide,⟨⟨_,rfl,rfl,rfl⟩,⟨_,rfl,rfl,rfl⟩,⟨_,rfl,rfl,rfl⟩,⟨_,rfl,rfl,rfl⟩,⟨_,rfl,rfl,rfl⟩,⟨_,rfl,rfl,rfl⟩,⟨_,rfl,rfl,rfl⟩,trivial⟩,⟨⟨_,_,rfl,rfl,rfl,rfl⟩,⟨_,_,rfl,rfl,rfl,rfl⟩,⟨_,_,rfl,rfl,rfl,rfl⟩,trivial⟩,by rw [hk]; decide⟩⟩))
    ·exact ⟨by omega,by rw [hos2,List.take_add_one,he2]; simp [hpc]⟩
    · omega
   try simp only [sB] at c2
   refine w_exit (q_then_exit (q_then_exit (q_block_exit (q_then (w_seq ?_)))))
   have hje : j = (covW l space a n).length := by omega
   refine w_H (H' := [(0,oB true 3 ePiece (mapL l space a n)),(1,oB true 4 eWindow (ofL l space)),(2,oB false 2 eSpan ((ofL l space).map vSp))]) (congrArg (fun z => ([(0,oB true 3 ePiece z),(1,oB true 4 eWindow (ofL l space)),(2,oB false 2 eSpan ((ofL l space).map vSp))] : Heap)) (show os = (mapL l space a n) by rw [hos2,hje,List.take_length]; rfl)) (w_R (qm hnt rfl rfl (qo hnt rfl (s_callK 3 (pS 3 true ePiece (mapL l space a n)) [(0,oB false 3 ePiece (mapL l space a n)),(1,oB true 4 eWindow (ofL l space)),(2,oB false 2 eSpan ((ofL l space).map vSp))] [] (w_slices_Clip_window_Piece_window_Piece (mapL l space a n) false) ?_))))
   exact qm hnt rfl rfl (qa hnt rfl rfl (qa hnt rfl rfl (r_set [(8,pS 3 true ePiece (mapL l space a n)),(9,pB (mapOk l space a n))] [(0,oB false 3 ePiece (mapL l space a n)),(1,oB true 4 eWindow (ofL l space)),(2,oB false 2 eSpan ((ofL l space).map vSp))] 3 ⟨rfl,rfl,trivial⟩ rfl rfl (re (w_le (s := 8) (y := pS 3 true ePiece (mapL l space a n)) rfl (le_of_eq (congrArg (fun z => pS 3 true ePiece z) (show (mapL l space a n) = (mapL l space a n) by rfl))) (w_ret fp))))))
theorem w_burgageref7_Map (l : List TWindow) (cl_l : Bool) (space : Int) (a : Int) (n : Int) (hl : l.length ≤ 1000) :
    T Try.prog 73 [pS 4 cl_l eWindow l,pI space,pI a,pI n] 0 [] (Ret (PV.tup [pS 3 false ePiece (mapL l space a n),pB (mapOk l space a n)]) 0 []) := by
 refine t_fun tabOk (n := 96) (rs := [.tmp 8,.tmp 9]) Try.func73 rfl rfl rfl rfl (nb rfl) ?_
 intro c hnt hk
 refine sr (xp hnt 2 [.o 2] [] [] (re (sr (ae hnt rfl rfl (sr ?_)))))
 refine ae hnt rfl rfl (w_seq (sr (qm hnt rfl rfl (qo hnt rfl (s_lenM (l := l) tab_23 rfl (hM_sl (f := eWindow) rfl) ?_)))))
 refine qm hnt rfl rfl (re (w_block (w_adopt (s := 10) (sz := 2) rfl (w_adopt (s := 11) (sz := 4) rfl (loop3 (fun (ss : List TSpan) (ws : List TWindow) (i : Nat) => i ≤ l.length ∧ ws = ofL (l.take i) space ∧ ss = (ofL (l.take i) space).map vSp) (fun (ss : List TSpan) (ws : List TWindow) (i : Nat) => [(1,pI space),(2,pI a),(3,pI n),(10,PV.ref 0 0 none),(11,PV.ref 1 0 none),(21,pS 4 cl_l eWindow l),(22,pN l.length),(23,pN i)]) 2 (fun (ss : List TSpan) (ws : List TWindow) (i : Nat) => [(0,oB true 2 eSpan ss),(1,oB true 4 eWindow ws)]) (fun (ss : List TSpan) (ws : List TWindow) (i : Nat) => l.length - i) (([] : List TSpan)) (([] : List TWindow)) (0) ?_ ⟨[(0,0),(1,1)],by rw [hk]; decide,⟨⟨_,rfl,rfl,rfl⟩,⟨_,rfl,rfl,rfl⟩,⟨_,rfl,rfl,rfl⟩,⟨_,rfl,rfl,rfl⟩,⟨_,rfl,rfl,rfl⟩,⟨_,rfl,rfl,rfl⟩,⟨_,rfl,rfl,rfl⟩,⟨_,rfl,rfl,rfl⟩,trivial⟩,⟨⟨_,_,rfl,rfl,rfl,rfl⟩,⟨_,_,rfl,rfl,rfl,rfl⟩,trivial⟩,by rw [hk]; decide⟩ ?_)))))
 · exact ⟨by omega,rfl,rfl⟩
 ·intro ss ws i hI
  obtain ⟨hi,hws,hss⟩ := hI
  have hol := Nat.le_trans (ofL_len (l.take i) space) (show (l.take i).length ≤ 1000 by simp; omega)
  have hol1 : ws.length ≤ 1000 := by rw [hws]; exact hol
  have hol2 : ss.length ≤ 1000 := by rw [hss]; simp; omega
  refine sr (qo hnt rfl (s_lss rfl rfl ?_))
  refine re (w_seq (w_if rfl (fun c1 => ?_) (fun c1 => ?_)))
  ·try simp only [sB] at c1
   refine w_skip (q_then (w_seq (w_block (sr ?_))))
   obtain ⟨e1,he1⟩ := get_of_lt l (i := i) (by omega)
   refine qo hnt rfl (s_iaM (q := i) (b := e1) (f := eWindow) tab_23 rfl tab_42 rfl rfl (by omega) rfl he1 ?_)
   refine xm hnt 3 [.o 3] [] [(13,PV.ptr 2 0)] 3 [(2,.obj (cWindow e1)),(0,oB true 2 eSpan ss),(1,oB true 4 eWindow ws)] (re (sr (xp hnt 1 [.o 1] [] [(27,PV.f (eWindow e1))] (qo hnt rfl (s_callF rfl rfl rfl (w_burgageref7_Window e1) rfl ?_)))))
   refine xp hnt 6 [.o 1,.b 4 [.o 4]] [] [(34,pB ((winR e1) && (decide (e1.space = space))))] (re (w_if rfl (fun c2 => ?_) (fun c2 => ?_)))
   ·have c2_ := c2
    try simp only [sB] at c2
    refine wdr hnt (xq 6 [.o 6] [] (xk [(40,PV.f (.agg [encI e1.virtual,encI e1.count]))] [] [] [(3,oB true 2 eSpan [(⟨e1.virtual,e1.count⟩ : TSpan)])] [(3,oB true 2 eSpan [(⟨e1.virtual,e1.count⟩ : TSpan)]),(2,.obj (cWindow e1)),(0,oB true 2 eSpan ss),(1,oB true 4 eWindow ws)] (s_mkM (f := eSpan) [(⟨e1.virtual,e1.count⟩ : TSpan)] tab_131 rfl tab_133 ⟨rfl,by decide⟩ (by decide) rfl rfl rfl rfl ⟨rfl,rfl,rfl⟩) (xk [(35,PV.ref 0 0 none),(41,PV.ref 3 0 none)] [(3,oB true 2 eSpan [(⟨e1.virtual,e1.count⟩ : TSpan)])] [(0,oB true 2 eSpan ss)] [(4,oB true 2 eSpan (ss ++ [(⟨e1.virtual,e1.count⟩ : TSpan)])),(3,oB true 2 eSpan [(⟨e1.virtual,e1.count⟩ : TSpan)])] [(4,oB true 2 eSpan (ss ++ [(⟨e1.virtual,e1.count⟩ : TSpan)])),(3,oB true 2 eSpan [(⟨e1.virtual,e1.count⟩ : TSpan)]),(2,.obj (cWindow e1)),(1,oB true 4 eWindow ws)] (s_appR0 (f := eSpan) (l := ss) (xs := [(⟨e1.virtual,e1.count⟩ : TSpan)]) tab_131 rfl tab_133 ⟨rfl,by decide,by decide⟩ (srcM tab_131 rfl (hM_ref0 (f := eSpan) rfl rfl)) rfl rfl (by (simp; omega)) ⟨rfl,rfl,rfl⟩) ?_ (hs := ⟨rfl,trivial⟩))))
    refine xq 2 [.o 2] [] (xk [(44,PV.f (eWindow e1))] [] [] [(5,oB true 4 eWindow [e1])] [(5,oB true 4 eWindow [e1]),(4,oB true 2 eSpan (ss ++ [(⟨e1.virtual,e1.count⟩ : TSpan)])),(3,oB true 2 eSpan [(⟨e1.virtual,e1.count⟩ : TSpan)]),(2,.obj (cWindow e1)),(1,oB true 4 eWindow ws)] (s_mkM (f := eWindow) [e1] tab_23 rfl tab_42 ⟨rfl,by decide⟩ (by decide) rfl rfl rfl rfl ⟨rfl,rfl,rfl⟩) (xk [(43,PV.ref 1 0 none),(45,PV.ref 5 0 none)] [(5,oB true 4 eWindow [e1])] [(1,oB true 4 eWindow ws)] [(6,oB true 4 eWindow (ws ++ [e1])),(5,oB true 4 eWindow [e1])] [(6,oB true 4 eWindow (ws ++ [e1])),(5,oB true 4 eWindow [e1]),(4,oB true 2 eSpan (ss ++ [(⟨e1.virtual,e1.count⟩ : TSpan)])),(3,oB true 2 eSpan [(⟨e1.virtual,e1.count⟩ : TSpan)]),(2,.obj (cWindow e1))] (s_appR0 (f := eWindow) (l := ws) (xs := [e1]) tab_23 rfl tab_42 ⟨rfl,by decide,by decide⟩ (srcM tab_23 rfl (hM_ref0 (f := eWindow) rfl rfl)) rfl rfl (by (simp; omega)) ⟨rfl,rfl,rfl⟩) ?_ (hs := ⟨rfl,trivial⟩)))
    refine xq 2 [.o 2] [] (xe [(1,pI space),(2,pI a),(3,pI n),(10,PV.ref 4 0 none),(11,PV.ref 6 0 none),(21,pS 4 cl_l eWindow l),(22,pN l.length),(23,pN i)] (r_end (q_block (q_then (w_R ?_)))))
    refine qo hnt rfl (s_addN (a := i) (b := 1) rfl rfl (by omega) (by omega) (by omega) ?_)
    refine qm hnt rfl rfl (re (⟨(ss ++ [(⟨e1.virtual,e1.count⟩ : TSpan)]),(ws ++ [e1]),(i + 1), ?_, ?_,⟨[(0,4),(1,6)],by rw [hk]; decide,⟨⟨_,rfl,rfl,rfl⟩,⟨_,rfl,rfl,rfl⟩,⟨_,rfl,rfl,rfl⟩,⟨_,rfl,rfl,rfl⟩,⟨_,rfl,rfl,rfl⟩,⟨_,rfl,rfl,rfl⟩,⟨_,rfl,rfl,rfl⟩,⟨_,rfl,rfl,rfl⟩,trivial⟩,⟨⟨_,_,rfl,rfl,rfl,rfl⟩,⟨_,_,rfl,rfl,rfl,rfl⟩,trivial⟩,by rw [hk]; decide⟩⟩))
    ·(exact ⟨by omega,by rw [hws]; exact of_snoc_t he1 c2_,by rw [hss,← of_snoc_t he1 c2_,List.map_append]; rfl⟩)
    · omega
   have c2_ := c2
   try simp only [sB] at c2
   refine w_skip (q_block (q_then (w_R (qo hnt rfl (s_addN (a := i) (b := 1) rfl rfl (by omega) (by omega) (by omega) ?_)))))
   refine qm hnt rfl rfl (re (⟨(ss),(ws),(i + 1), ?_, ?_,⟨[(0,0),(1,1)],by rw [hk]; decide,⟨⟨_,rfl,rfl,rfl⟩,⟨_,rfl,rfl,rfl⟩,⟨_,rfl,rfl,rfl⟩,⟨_,rfl,rfl,rfl⟩,⟨_,rfl,rfl,rfl⟩,⟨_,rfl,rfl,rfl⟩,⟨_,rfl,rfl,rfl⟩,⟨_,rfl,rfl,rfl⟩,trivial⟩,⟨⟨_,_,rfl,rfl,rfl,rfl⟩,⟨_,_,rfl,rfl,rfl,rfl⟩,trivial⟩,by rw [hk]; decide⟩⟩))
   ·(exact ⟨by omega,by rw [hws]; exact of_snoc_f he1 c2_,by rw [hss,of_snoc_f he1 c2_]⟩)
   · omega
  try simp only [sB] at c1
  refine w_exit (q_then_exit (q_then_exit (q_block_exit (q_then (w_seq ?_)))))
  have hie : ofL (l.take i) space = ofL l space := by rw [List.take_of_length_le (by omega)]
  refine w_H (H' := [(0,oB true 2 eSpan ((ofL l space).map vSp)),(1,oB true 4 eWindow ws)]) (congrArg (fun z => ([(0,oB true 2 eSpan z),(1,oB true 4 eWindow ws)] : Heap)) (show ss = ((ofL l space).map vSp) by rw [hss,hie])) (w_H (H' := [(0,oB true 2 eSpan ((ofL l space).map vSp)),(1,oB true 4 eWindow (ofL l space))]) (congrArg (fun z => ([(0,oB true 2 eSpan ((ofL l space).map vSp)),(1,oB true 4 eWindow z)] : Heap)) (show ws = (ofL l space) by rw [hws,hie])) ?_)
  have hle := ofL_len l space
  refine w_R (xp hnt 4 [.o 4] [] [(49,PV.ref 0 0 none),(52,PV.f (.agg [encI a,encI n]))] (qo hnt rfl (s_callK 2 (PV.tup [pS 2 false eSpan (coverV ((ofL l space).map vSp) (⟨a,n⟩ : TSpan)),pB (coverOk ((ofL l space).map vSp) (⟨a,n⟩ : TSpan))]) [(0,oB false 2 eSpan ((ofL l space).map vSp)),(1,oB true 4 eWindow (ofL l space))] [] (w_burgageref7_Cover ((ofL l space).map vSp) false (⟨a,n⟩ : TSpan) (by rw [List.length_map]; omega)) ?_)))
  refine qm hnt rfl rfl (qo hnt rfl (s_extract rfl rfl ?_))
  refine qo hnt rfl (s_extract rfl rfl ?_)
  refine qa hnt rfl rfl (qa hnt rfl rfl (r_set [(11,PV.ref 1 0 none),(14,pS 2 false eSpan (coverV ((ofL l space).map vSp) (⟨a,n⟩ : TSpan))),(15,pB (coverOk ((ofL l space).map vSp) (⟨a,n⟩ : TSpan)))] [(0,oB false 2 eSpan ((ofL l space).map vSp)),(1,oB true 4 eWindow (ofL l space))] 2 ⟨rfl,rfl,rfl,trivial⟩ rfl rfl (re (w_seq (w_seq (w_eq (s := 14) (y := pS 2 false eSpan (covW l space a n)) rfl (congrArg (fun z => pS 2 false eSpan z) (show (coverV ((ofL l space).map vSp) (⟨a,n⟩ : TSpan)) = (covW l space a n) by rfl)) (w_eq (s := 15) (y := pB (mapOk l space a n)) rfl (congrArg pB (show (coverOk ((ofL l space).map vSp) (⟨a,n⟩ : TSpan)) = (mapOk l space a n) by rfl)) ?_)))))))
  have hcl := covW_len l space a n
  refine w_R (qm hnt rfl rfl (qo hnt rfl (s_not rfl ?_)))
  refine re (w_if rfl (fun c3 => ?_) (fun c3 => ?_))
  ·have c3_ := c3
   try simp only [sB] at c3
   have hmo : mapOk l space a n = false := by simpa using c3_
   have hml : mapL l space a n = [] := by unfold mapL covW coverV; unfold mapOk coverOk at hmo; rw [Option.isSome_eq_false_iff,Option.isNone_iff_eq_none] at hmo; rw [hmo]; rfl
   exact sr (qa hnt rfl rfl (ae hnt rfl rfl (w_le (s := 8) (y := pS 3 false ePiece []) rfl (le_nilS 3 false) (w_le (s := 8) (y := pS 3 false ePiece (mapL l space a n)) rfl (le_of_eq (congrArg (fun z => pS 3 false ePiece z) (show ([] : List TPiece) = (mapL l space a n) by exact hml.symm))) (w_le (s := 9) (y := pB (mapOk l space a n)) rfl (le_of_eq (congrArg pB (show false = (mapOk l space a n) by exact hmo.symm))) (w_ret (q_then_ret fp)))))))
  have c3_ := c3
  try simp only [sB] at c3
  have hmo : mapOk l space a n = true := by simpa using c3_
  refine w_skip (q_then (sr (ae hnt rfl rfl (w_seq (sr (qm hnt rfl rfl (qo hnt rfl (s_lenM (l := covW l space a n) tab_131 rfl (hM_sl (f := eSpan) rfl) ?_))))))))
  refine qm hnt rfl rfl (re (w_block (w_adopt (s := 16) (sz := 3) rfl (loop2 (fun (os : List TPiece) (j : Nat) => j ≤ (covW l space a n).length ∧ os = ((covW l space a n).take j).map (pieceW (ofL l space))) (fun (os : List TPiece) (j : Nat) => [(11,PV.ref 1 0 none),(16,PV.ref 0 0 none),(58,pS 2 false eSpan (covW l space a n)),(59,pN ((covW l space a n).length)),(60,pN j)]) 2 (fun (os : List TPiece) (j : Nat) => [(0,oB true 3 ePiece os),(1,oB true 4 eWindow (ofL l space))]) (fun (os : List TPiece) (j : Nat) => (covW l space a n).length - j) (([] : List TPiece)) (0) ?_ ⟨[(0,2),(1,1)],by rw [hk]; decide,⟨⟨_,rfl,rfl,rfl⟩,⟨_,rfl,rfl,rfl⟩,⟨_,rfl,rfl,rfl⟩,⟨_,rfl,rfl,rfl⟩,⟨_,rfl,rfl,rfl⟩,trivial⟩,⟨⟨_,_,rfl,rfl,rfl,rfl⟩,⟨_,_,rfl,rfl,rfl,rfl⟩,trivial⟩,by rw [hk]; decide⟩ ?_))))
  · exact ⟨by omega,rfl⟩
  ·intro os j hI
   obtain ⟨hj,hos2⟩ := hI
   have hol3 : os.length ≤ 2147483648 := by rw [hos2]; simp; omega
   refine sr (qo hnt rfl (s_lss rfl rfl ?_))
   refine re (w_seq (w_if rfl (fun c4 => ?_) (fun c4 => ?_)))
   ·try simp only [sB] at c4
    refine w_skip (q_then (w_seq (w_block (sr ?_))))
    obtain ⟨e2,he2⟩ := get_of_lt (covW l space a n) (i := j) (by omega)
    refine qo hnt rfl (s_iaM (q := j) (b := e2) (f := eSpan) tab_131 rfl tab_133 rfl rfl (by omega) rfl he2 ?_)
    refine xm hnt 3 [.o 3] [] [(18,PV.ptr 2 0)] 3 [(2,.obj (cSpan e2)),(0,oB true 3 ePiece os),(1,oB true 4 eWindow (ofL l space))] (re (sr (qm hnt rfl rfl (qo hnt rfl (s_lenM (l := ofL l space) tab_23 rfl (hM_ref0 (f := eWindow) rfl rfl) ?_)))))
    refine qm hnt rfl rfl (re (w_block (loop2 (fun (os4 : List TPiece) (k : Nat) => k ≤ (ofL l space).length ∧ (∀ q u,q < k → (ofL l space)[q]? = some u → spIn e2 (vSp u) = false) ∧ os4 = os) (fun (os4 : List TPiece) (k : Nat) => [(11,PV.ref 1 0 none),(16,PV.ref 0 0 none),(18,PV.ptr 2 0),(58,pS 2 false eSpan (covW l space a n)),(59,pN ((covW l space a n).length)),(60,pN j),(64,PV.ref 1 0 none),(65,pN ((ofL l space).length)),(66,pN k)]) 3 (fun (os4 : List TPiece) (k : Nat) => [(0,oB true 3 ePiece os4),(1,oB true 4 eWindow (ofL l space)),(2,.obj (cSpan e2))]) (fun (os4 : List TPiece) (k : Nat) => (ofL l space).length - k) (os) (0) ?_ ⟨[(0,0),(1,1),(2,2)],by rw [hk]; decide,⟨⟨_,rfl,rfl,rfl⟩,⟨_,rfl,rfl,rfl⟩,⟨_,rfl,rfl,rfl⟩,⟨_,rfl,rfl,rfl⟩,⟨_,rfl,rfl,rfl⟩,⟨_,rfl,rfl,rfl⟩,⟨_,rfl,rfl,rfl⟩,⟨_,rfl,rfl,rfl⟩,⟨_,rfl,rfl,rfl⟩,trivial⟩,⟨⟨_,_,rfl,rfl,rfl,rfl⟩,⟨_,_,rfl,rfl,rfl,rfl⟩,⟨_,_,rfl,rfl,rfl,rfl⟩,trivial⟩,by rw [hk]; decide⟩ ?_)))
    · exact ⟨by omega,fun q u hq => by omega,rfl⟩
    ·intro os4 k hK
     obtain ⟨hk2,hno,ho4⟩ := hK
     have hol4 : os4.length ≤ 2147483648 := by rw [ho4]; exact hol3
     refine sr (qo hnt rfl (s_lss rfl rfl ?_))
     refine re (w_seq (w_if rfl (fun c5 => ?_) (fun c5 => ?_)))
     ·try simp only [sB] at c5
      refine w_skip (q_then (w_seq (w_block (sr (qo hnt rfl (s_iaR0 (q := k) (f := eWindow) (l := ofL l space) tab_23 rfl tab_42 rfl rfl (by omega) rfl rfl (by omega) ?_))))))
      obtain ⟨e3,he3⟩ := get_of_lt (ofL l space) (i := k) (by omega)
      refine qo hnt rfl (s_ldA (b := e3) tab_42 rfl rfl rfl he3 rfl rfl ?_)
      refine qo hnt rfl (s_alloc tab_42 ?_)
      refine qo hnt rfl (s_store_ptr tab_42 rfl rfl rfl rfl rfl (nb rfl) ?_)
      refine r_set [(11,PV.ref 1 0 none),(16,PV.ref 0 0 none),(18,PV.ptr 2 0),(20,PV.ptr 3 0),(58,pS 2 false eSpan (covW l space a n)),(59,pN ((covW l space a n).length)),(60,pN j),(64,PV.ref 1 0 none),(65,pN ((ofL l space).length)),(66,pN k)] [(3,.obj (cWindow e3)),(0,oB true 3 ePiece os4),(1,oB true 4 eWindow (ofL l space)),(2,.obj (cSpan e2))] 4 ⟨rfl,rfl,rfl,rfl,rfl,rfl,rfl,rfl,rfl,rfl,trivial⟩ rfl rfl (re (sr (xp hnt 6 [.o 6] [] [(70,PV.f (eSpan e2)),(75,PV.f (.agg [encI e3.virtual,encI e3.count]))] (qo hnt rfl (s_callF rfl rfl rfl (w_burgageref7_In e2 (⟨e3.virtual,e3.count⟩ : TSpan)) rfl ?_)))))
      refine re (w_if rfl (fun c6 => ?_) (fun c6 => ?_))
      ·have c6_ := c6
       try simp only [sB] at c6
       refine w_seq ?_
       obtain ⟨hpc,m1,v1,v2,v3⟩ := piece_found (List.mem_of_getElem? he2) he3 c6_ hno
       have hwb := (winR_iff e3).1 m1
       refine w_R (xp hnt 14 [.o 14] [okI (e3.physical + e2.at_),okI ((e3.physical + e2.at_) - e3.virtual)] [(77,PV.ref 0 0 none),(90,PV.f (.agg [encI e2.at_,encI ((e3.physical + e2.at_) - e3.virtual),encI e2.count]))] ?_ (hc := ⟨by unfold okI; (omega),by unfold okI; (omega),trivial⟩))
       refine qo hnt rfl (s_mkM (f := ePiece) [(⟨e2.at_,(e3.physical + e2.at_) - e3.virtual,e2.count⟩ : TPiece)] tab_100 rfl tab_103 ⟨rfl,by decide⟩ (by decide) rfl rfl rfl rfl ?_)
       refine qo hnt rfl (s_appR0 (f := ePiece) (l := os4) (xs := [(⟨e2.at_,(e3.physical + e2.at_) - e3.virtual,e2.count⟩ : TPiece)]) tab_100 rfl tab_103 ⟨rfl,by decide,by decide⟩ (srcM tab_100 rfl (hM_ref0 (f := ePiece) rfl rfl)) rfl rfl (by (simp; omega)) ?_)
       refine qa hnt rfl rfl (r_set [(11,PV.ref 1 0 none),(16,PV.ref 5 0 none),(58,pS 2 false eSpan (covW l space a n)),(59,pN ((covW l space a n).length)),(60,pN j)] [(5,oB true 3 ePiece (os4 ++ [(⟨e2.at_,(e3.physical + e2.at_) - e3.virtual,e2.count⟩ : TPiece)])),(4,oB true 3 ePiece [(⟨e2.at_,(e3.physical + e2.at_) - e3.virtual,e2.count⟩ : TPiece)]),(3,.obj (cWindow e3)),(1,oB true 4 eWindow (ofL l space)),(2,.obj (cSpan e2))] 6 ⟨rfl,rfl,rfl,rfl,rfl,trivial⟩ rfl rfl (re (w_exit (q_block_pass (by decide) (q_then_exit (q_then_exit (q_block_exit (q_block (q_then ?_)))))))))
       refine w_R (qo hnt rfl (s_addN (a := j) (b := 1) rfl rfl (by omega) (by omega) (by omega) ?_))
       refine qm hnt rfl rfl (re (⟨(os4 ++ [(⟨e2.at_,(e3.physical + e2.at_) - e3.virtual,e2.count⟩ : TPiece)]),(j + 1), ?_, ?_,⟨[(0,5),(1,1)],by rw [hk]; decide,⟨⟨_,rfl,rfl,rfl⟩,⟨_,rfl,rfl,rfl⟩,⟨_,rfl,rfl,rfl⟩,⟨_,rfl,rfl,rfl⟩,⟨_,rfl,rfl,rfl⟩,trivial⟩,⟨⟨_,_,rfl,rfl,rfl,rfl⟩,⟨_,_,rfl,rfl,rfl,rfl⟩,trivial⟩,by rw [hk]; decide⟩⟩))
       ·exact ⟨by omega,by rw [ho4,hos2,List.take_add_one,he2]; simp [hpc]⟩
       · omega
      have c6_ := c6
      try simp only [sB] at c6
      refine w_skip (q_block (q_then (w_R (qo hnt rfl (s_addN (a := k) (b := 1) rfl rfl (by omega) (by omega) (by omega) ?_)))))
      refine qm hnt rfl rfl (re (⟨(os4),(k + 1), ?_, ?_,⟨[(0,0),(1,1),(2,2)],by rw [hk]; decide,⟨⟨_,rfl,rfl,rfl⟩,⟨_,rfl,rfl,rfl⟩,⟨_,rfl,rfl,rfl⟩,⟨_,rfl,rfl,rfl⟩,⟨_,rfl,rfl,rfl⟩,⟨_,rfl,rfl,rfl⟩,⟨_,rfl,rfl,rfl⟩,⟨_,rfl,rfl,rfl⟩,⟨_,rfl,rfl,rfl⟩,trivial⟩,⟨⟨_,_,rfl,rfl,rfl,rfl⟩,⟨_,_,rfl,rfl,rfl,rfl⟩,⟨_,_,rfl,rfl,rfl,rfl⟩,trivial⟩,by rw [hk]; decide⟩⟩))
      ·refine ⟨by omega,fun q u hq hu => ?_,ho4⟩
       by_cases hqk : q < k
       · exact hno q u hqk hu
       · obtain rfl : q = k := by omega
         rw [he3] at hu; cases hu; exact c6_
      · omega
     exact absurd c5 (by intro h9; exact piece_there (List.mem_of_getElem? he2) (fun q u hq hu => hno q u (by have := of_decide_eq_false h9; omega) hu))
   try simp only [sB] at c4
   have hje : j = (covW l space a n).length := by omega
   have hml : os = mapL l space a n := by rw [hos2,hje,List.take_length]; rfl
   refine w_exit (q_then_exit (q_then_exit (q_block_exit (q_then (sr ?_)))))
   exact xp hnt 3 [.o 3] [] [(8,PV.ref 0 0 none),(9,pB true)] (re (w_frzM (s := 8) (f := ePiece) rfl rfl view_0 (w_le (s := 8) (y := pS 3 false ePiece (mapL l space a n)) rfl (le_of_eq (congrArg (fun z => pS 3 false ePiece z) (show os = (mapL l space a n) by exact hml))) (w_le (s := 9) (y := pB (mapOk l space a n)) rfl (le_of_eq (congrArg pB (show true = (mapOk l space a n) by exact hmo.symm))) (w_ret fp)))))
def put2 (n : Int) : List UInt8 := [u8I (n / 2 ^ 8),u8I n]
@[simp] theorem put2_length (n : Int) : (put2 n).length = 2 := rfl
def w16 (x y : UInt8) : UInt16 := (x.toUInt16 <<< UInt16.ofNat 8) ||| y.toUInt16
def wordsL : List UInt8 → List UInt16
  | x :: y :: t => w16 x y :: wordsL t
  | _ => []
@[simp] theorem wordsL_length : ∀ (b : List UInt8),(wordsL b).length = b.length / 2
  | [] => rfl
  | [_] => by simp [wordsL]
  | a :: b :: t => by simp [wordsL,wordsL_length t]; omega
def bytesOf1 (w : UInt16) : List UInt8 := [(w >>> UInt16.ofNat 8).toUInt8,w.toUInt8]
def bytesL (l : List UInt16) : List UInt8 := l.flatMap bytesOf1
@[simp] theorem bytesL_length (l : List UInt16) : (bytesL l).length = 2 * l.length := by
  induction l with
  | nil => rfl
  | cons a t ih => simp [bytesL,bytesOf1] at ih ⊢; omega
def bitB (x : UInt8) (t : Nat) : Bool := x.toBitVec.getLsbD t
def mkByte (f : Nat → Bool) : UInt8 := ⟨BitVec.ofBoolListLE [f 0,f 1,f 2,f 3,f 4,f 5,f 6,f 7]⟩
def packT (l : List Bool) (i : Nat) : List UInt8 := (List.range ((l.length + 7) / 8)).map fun j => mkByte fun k => decide (8 * j + k < i) && l.getD (8 * j + k) false
def packL (l : List Bool) : List UInt8 := (List.range ((l.length + 7) / 8)).map fun j => mkByte fun k => l.getD (8 * j + k) false
@[simp] theorem packT_length (l : List Bool) (i : Nat) : (packT l i).length = (l.length + 7) / 8 := by simp [packT]
@[simp] theorem packL_length (l : List Bool) : (packL l).length = (l.length + 7) / 8 := by simp [packL]
def bitOf (b : List UInt8) (i : Nat) : Bool := bitB (b.getD (i / 8) 0) (i % 8)
def openT (b : List UInt8) (n i : Nat) : List Bool := (List.range n).map fun j => decide (j < i) && bitOf b j
@[simp] theorem openT_length (b : List UInt8) (n i : Nat) : (openT b n i).length = n := by simp [openT]
def hasF (n : Int) : Bool := decide ((1 ≤ n ∧ n ≤ 6) ∨ n = 8 ∨ n = 15 ∨ n = 16 ∨ n = 17 ∨ n = 22 ∨ n = 23)
theorem hasF_of {n : Int} (h : hasF n = true) : n = 1 ∨ n = 2 ∨ n = 3 ∨ n = 4 ∨ n = 5 ∨ n = 6 ∨ n = 8 ∨ n = 15 ∨ n = 16 ∨ n = 17 ∨ n = 22 ∨ n = 23 := by
  have := of_decide_eq_true h; omega
def wordOk (n : Int) : Bool := decide (0 ≤ n ∧ n ≤ 65535)
def usesS (n : Int) : List UInt8 := if n = 1 ∨ n = 2 ∨ n = 3 ∨ n = 4 then [97,99] else if n = 5 then [97,98] else if n = 6 then [97,118] else if n = 8 then [115,118] else if n = 15 then [97,99,98] else if n = 16 then [97,99,118] else if n = 22 then [97,109] else if n = 23 then [97,99,119,118] else []
theorem usesS_len (n : Int) : (usesS n).length ≤ 4 := by
  unfold usesS
  repeat' split
  all_goals simp
def inS (s : List UInt8) (c : UInt8) : Bool := decide (c ∈ s)
def listsR (q : TRequest) : Bool :=
  if q.fn = 5 then decide (q.bits.length = 1) else if q.fn = 6 ∨ q.fn = 8 then decide (q.vals.length = 1) else if q.fn = 15 then decide ((q.bits.length : Int) = q.count ∧ q.bits.length ≤ 2040)
  else if q.fn = 16 then decide ((q.vals.length : Int) = q.count ∧ q.vals.length ≤ 127) else if q.fn = 23 then decide (q.vals.length ≤ 127) else true
theorem listsR_5 {q : TRequest} (h : q.fn = 5) : listsR q = decide (((q.bits.length : Nat) : Int) = 1) := by unfold listsR; rw [if_pos h]; apply decide_eq_decide.2; omega
theorem listsR_6 {q : TRequest} (h : q.fn = 6) : listsR q = decide (((q.vals.length : Nat) : Int) = 1) := by unfold listsR; rw [if_neg (by omega),if_pos (.inl h)]; apply decide_eq_decide.2; omega
theorem listsR_8 {q : TRequest} (h : q.fn = 8) : listsR q = decide (((q.vals.length : Nat) : Int) = 1) := by unfold listsR; rw [if_neg (by omega),if_pos (.inr h)]; apply decide_eq_decide.2; omega
theorem listsR_15 {q : TRequest} (h : q.fn = 15) : listsR q = (decide (((q.bits.length : Nat) : Int) = q.count) && decide (((q.bits.length : Nat) : Int) ≤ 2040)) := by
  unfold listsR; rw [if_neg (by omega),if_neg (by omega),if_pos h,← Bool.decide_and]; apply decide_eq_decide.2; omega
theorem listsR_16 {q : TRequest} (h : q.fn = 16) : listsR q = (decide (((q.vals.length : Nat) : Int) = q.count) && decide (((q.vals.length : Nat) : Int) ≤ 127)) := by
  unfold listsR; rw [if_neg (by omega),if_neg (by omega),if_neg (by omega),if_pos h,← Bool.decide_and]; apply decide_eq_decide.2; omega
theorem listsR_23 {q : TRequest} (h : q.fn = 23) : listsR q = decide (((q.vals.length : Nat) : Int) ≤ 127) := by
  unfold listsR; rw [if_neg (by omega),if_neg (by omega),if_neg (by omega),if_neg (by omega),if_pos h]; apply decide_eq_decide.2; omega
theorem listsR_no {q : TRequest} (h : q.fn ≠ 5 ∧ q.fn ≠ 6 ∧ q.fn ≠ 8 ∧ q.fn ≠ 15 ∧ q.fn ≠ 16 ∧ q.fn ≠ 23) : listsR q = true := by
  unfold listsR; rw [if_neg (by omega),if_neg (by omega),if_neg (by omega),if_neg (by omega),if_neg (by omega)]
def badA (r : TRequest) : Bool := (((((((!(inS (usesS r.fn) 97)) && (!decide (r.at_ = 0))) || ((!(inS (usesS r.fn) 99)) && (!decide (r.count = 0)))) || ((!(inS (usesS r.fn) 119)) && (!decide (r.wAt = 0)))) || ((!(inS (usesS r.fn) 115)) && (!decide (r.sub = 0)))) || ((!(inS (usesS r.fn) 98)) && (decide (0 < ((r.bits.length : Nat) : Int))))) || ((!(inS (usesS r.fn) 118)) && (decide (0 < ((r.vals.length : Nat) : Int))))) || ((!(inS (usesS r.fn) 109)) && ((!decide (r.and_ = 0)) || (!decide (r.or_ = 0))))
def badB (r : TRequest) : Bool := ((((!(wordOk r.at_)) || (!(wordOk r.count))) || (!(wordOk r.wAt))) || (!(wordOk r.sub))) || (!(listsR r))
def rightR (q : TRequest) : Int := if (!(hasF q.fn)) = true then 15 else if badA q = true then 12 else if badB q = true then 12 else 0
theorem rightR_1 {q : TRequest} (h : (!(hasF q.fn)) = true) : rightR q = 15 := by unfold rightR; rw [if_pos h]
theorem rightR_2 {q : TRequest} (h : (!(hasF q.fn)) = false) (h2 : badA q = true) : rightR q = 12 := by unfold rightR; rw [if_neg (by simp [h]),if_pos h2]
theorem rightR_3 {q : TRequest} (h : (!(hasF q.fn)) = false) (h2 : badA q = false) (h3 : badB q = true) : rightR q = 12 := by unfold rightR; rw [if_neg (by simp [h]),if_neg (by simp [h2]),if_pos h3]
theorem rightR_4 {q : TRequest} (h : (!(hasF q.fn)) = false) (h2 : badA q = false) (h3 : badB q = false) : rightR q = 0 := by unfold rightR; rw [if_neg (by simp [h]),if_neg (by simp [h2]),if_neg (by simp [h3])]
theorem in_all {n : Int} (h : hasF n = true) : inS (usesS n) 97 = decide (n ≠ 8 ∧ n ≠ 17) ∧ inS (usesS n) 99 = decide (n ≤ 4 ∨ n = 15 ∨ n = 16 ∨ n = 23) ∧ inS (usesS n) 119 = decide (n = 23) ∧ inS (usesS n) 115 = decide (n = 8) ∧
    inS (usesS n) 98 = decide (n = 5 ∨ n = 15) ∧ inS (usesS n) 118 = decide (n = 6 ∨ n = 8 ∨ n = 16 ∨ n = 23) ∧ inS (usesS n) 109 = decide (n = 22) := by
  rcases hasF_of h with h|h|h|h|h|h|h|h|h|h|h|h <;> subst h <;> decide
theorem u16z {x : UInt16} : x = 0 ↔ x.toNat = 0 := ⟨fun h => by rw [h]; rfl,fun h => UInt16.toNat_inj.1 h⟩
structure ShapeR (q : TRequest) : Prop where
  wa : 0 ≤ q.at_ ∧ q.at_ ≤ 65535
  wc : 0 ≤ q.count ∧ q.count ≤ 65535
  ww : 0 ≤ q.wAt ∧ q.wAt ≤ 65535
  ws : 0 ≤ q.sub ∧ q.sub ≤ 65535
  za : (q.fn = 8 ∨ q.fn = 17) → q.at_ = 0
  zc : ¬ (q.fn ≤ 4 ∨ q.fn = 15 ∨ q.fn = 16 ∨ q.fn = 23) → q.count = 0
  zw : q.fn ≠ 23 → q.wAt = 0
  zs : q.fn ≠ 8 → q.sub = 0
  zm : q.fn ≠ 22 → q.and_.toNat = 0 ∧ q.or_.toNat = 0
  bits : if q.fn = 5 then q.bits.length = 1 else if q.fn = 15 then (q.bits.length : Int) = q.count ∧ q.bits.length ≤ 2040 else q.bits.length = 0
  vals : if q.fn = 6 ∨ q.fn = 8 then q.vals.length = 1 else if q.fn = 16 then (q.vals.length : Int) = q.count ∧ q.vals.length ≤ 127 else if q.fn = 23 then q.vals.length ≤ 127 else q.vals.length = 0
theorem shapeR_iff {q : TRequest} (h : hasF q.fn = true) : rightR q = 0 ↔ ShapeR q := by
  obtain ⟨ia,ic,iw,is,ib,iv,im⟩ := in_all h
  have h0 : (!(hasF q.fn)) = false := by simp [h]
  have e : rightR q = 0 ↔ badA q = false ∧ badB q = false := by
    cases ha : badA q with
    | true => rw [rightR_2 h0 ha]; simp
    | false =>
      cases hb : badB q with
      | true => rw [rightR_3 h0 ha hb]; simp
      | false => rw [rightR_4 h0 ha hb]; simp
  rw [e]
  unfold badA badB
  rw [ia,ic,iw,is,ib,iv,im]
  have hz := @u16z q.and_
  have hz2 := @u16z q.or_
  have hf := hasF_of h
  simp only [Bool.or_eq_false_iff,Bool.and_eq_false_iff,Bool.not_eq_false',decide_eq_true_eq,decide_eq_false_iff_not,wordOk,hz,hz2]
  constructor
  · rintro ⟨⟨⟨⟨⟨⟨⟨a1,a2⟩,a3⟩,a4⟩,a5⟩,a6⟩,a7⟩,⟨⟨⟨b1,b2⟩,b3⟩,b4⟩,b5⟩
    unfold listsR at b5
    refine ⟨b1,b2,b3,b4,by omega,by omega,by omega,by omega,by omega, ?_, ?_⟩
    · repeat' split
      all_goals (repeat' split at b5) <;> first|omega|(simp only [decide_eq_true_eq] at b5; omega)
    · repeat' split
      all_goals (repeat' split at b5) <;> first|omega|(simp only [decide_eq_true_eq] at b5; omega)
  · rintro ⟨wa,wc,ww,ws,za,zc,zw,zs,zm,hb,hv⟩
    refine ⟨⟨⟨⟨⟨⟨⟨by omega,by omega⟩,by omega⟩,by omega⟩, ?_⟩, ?_⟩,by omega⟩,⟨⟨⟨wa,wc⟩,ww⟩,ws⟩, ?_⟩
    · repeat' split at hb
      all_goals omega
    · repeat' split at hv
      all_goals omega
    · unfold listsR
      repeat' split
      all_goals first|rfl|(apply decide_eq_true; (repeat' split at hb) <;> (repeat' split at hv) <;> omega)
theorem rightR_form {q : TRequest} (h : hasF q.fn = true) (h2 : ¬ ShapeR q) : rightR q = 12 := by
  have h0 : (!(hasF q.fn)) = false := by simp [h]
  cases ha : badA q with
  | true => exact rightR_2 h0 ha
  | false =>
    cases hb : badB q with
    | true => exact rightR_3 h0 ha hb
    | false => exact absurd ((shapeR_iff h).1 (rightR_4 h0 ha hb)) h2
theorem rightR_zero {q : TRequest} (h : rightR q = 0) : hasF q.fn = true ∧ ShapeR q := by
  cases hf : hasF q.fn with
  | true => exact ⟨rfl,(shapeR_iff hf).1 h⟩
  | false => rw [rightR_1 (by simp [hf])] at h; cases h
def rowX (x : List UInt8) : List UInt8 := UInt8.ofNat x.length :: x
@[simp] theorem rowX_length (x : List UInt8) : (rowX x).length = x.length + 1 := by simp [rowX]
theorem shape_small {q : TRequest} (h : ShapeR q) : q.bits.length ≤ 2040 ∧ q.vals.length ≤ 127 := by
  obtain ⟨wa,wc,ww,ws,za,zc,zw,zs,zm,hb,hv⟩ := h
  constructor
  · repeat' split at hb
    all_goals omega
  · repeat' split at hv
    all_goals omega
theorem w_burgageref3_Has (n : Int)  :
    T Try.prog 57 [pI n] 0 [] (Ret (pB (hasF n)) 0 []) := by
 refine t_fun tabOk (n := 33) (rs := [.tmp 2]) Try.func57 rfl rfl rfl rfl (nb rfl) ?_
 intro c hnt hk
 refine sr (ae hnt rfl rfl (sr (xa hnt 31 [.o 3,.b 2 [.o 2],.o 1,.b 2 [.o 2],.o 1,.b 2 [.o 2],.o 1,.b 2 [.o 2],.o 1,.b 2 [.o 2],.o 1,.b 2 [.o 2],.o 1,.b 2 [.o 2],.o 1] [] [(2,pB ((((((((decide (1 ≤ n)) && (decide (n ≤ 6))) || (decide (n = 8))) || (decide (n = 15))) || (decide (n = 16))) || (decide (n = 17))) || (decide (n = 22))) || (decide (n = 23))))] 0 [] (re (w_le (s := 2) (y := pB (hasF n)) rfl (le_of_eq (congrArg pB (show ((((((((decide (1 ≤ n)) && (decide (n ≤ 6))) || (decide (n = 8))) || (decide (n = 15))) || (decide (n = 16))) || (decide (n = 17))) || (decide (n = 22))) || (decide (n = 23))) = (hasF n) by unfold hasF; apply Bool.eq_iff_iff.2; simp only [Bool.and_eq_true,Bool.or_eq_true,decide_eq_true_eq]; try omega))) ?_)))))
 exact w_ret fp
theorem w_burgageref3_word (n : Int)  :
    T Try.prog 85 [pI n] 0 [] (Ret (pB (wordOk n)) 0 []) := by
 refine t_fun tabOk (n := 9) (rs := [.tmp 2]) Try.func85 rfl rfl rfl rfl (nb rfl) ?_
 intro c hnt hk
 refine sr (ae hnt rfl rfl (sr (xa hnt 7 [.o 3,.b 2 [.o 2],.o 1] [] [(2,pB ((decide (0 ≤ n)) && (decide (n ≤ 65535))))] 0 [] (re (w_le (s := 2) (y := pB (wordOk n)) rfl (le_of_eq (congrArg pB (show ((decide (0 ≤ n)) && (decide (n ≤ 65535))) = (wordOk n) by unfold wordOk; apply Bool.eq_iff_iff.2; simp only [Bool.and_eq_true,Bool.or_eq_true,decide_eq_true_eq]; try omega))) ?_)))))
 exact w_ret fp
theorem w_burgageref3_uses (n : Int)  :
    T Try.prog 92 [pI n] 0 [] (Ret (pT (usesS n)) 0 []) := by
 refine t_fun tabOk (n := 23) (rs := [.tmp 2]) Try.func92 rfl rfl rfl rfl (nb rfl) ?_
 intro c hnt hk
 refine sr (ae hnt rfl rfl (w_seq (sr (qm hnt rfl rfl (re (w_block (w_seq (sr ?_))))))))
 refine xp hnt 2 [.o 2] [] [(4,pB (decide (n = 1)))] (re (w_if rfl (fun c1 => ?_) (fun c1 => ?_)))
 ·have c1_ := c1
  try simp only [sB] at c1
  refine w_skip (q_then (w_if rfl (fun _ => ?_) (fun e => absurd (e.symm.trans c1_) (by decide))))
  exact sr (ae hnt rfl rfl (w_le (s := 2) (y := pT (usesS n)) rfl (le_of_eq (congrArg (fun z : List UInt8 => pT z) (show ([97,99] : List UInt8) = (usesS n) by (simp [usesS, *]; done)))) (w_ret (q_block_ret (q_then_ret fp)))))
 have c1_ := c1
 try simp only [sB] at c1
 refine sr (qo hnt rfl (s_eql rfl rfl ?_))
 refine ae hnt rfl rfl (w_if rfl (fun c2 => ?_) (fun c2 => ?_))
 ·have c2_ := c2
  try simp only [sB] at c2
  refine w_skip (q_then (w_if rfl (fun _ => ?_) (fun e => absurd (e.symm.trans c2_) (by decide))))
  exact sr (ae hnt rfl rfl (w_le (s := 2) (y := pT (usesS n)) rfl (le_of_eq (congrArg (fun z : List UInt8 => pT z) (show ([97,99] : List UInt8) = (usesS n) by (simp [usesS, *]; done)))) (w_ret (q_block_ret (q_then_ret fp)))))
 have c2_ := c2
 try simp only [sB] at c2
 refine sr (qo hnt rfl (s_eql rfl rfl ?_))
 refine ae hnt rfl rfl (w_if rfl (fun c3 => ?_) (fun c3 => ?_))
 ·have c3_ := c3
  try simp only [sB] at c3
  refine w_skip (q_then (w_if rfl (fun _ => ?_) (fun e => absurd (e.symm.trans c3_) (by decide))))
  exact sr (ae hnt rfl rfl (w_le (s := 2) (y := pT (usesS n)) rfl (le_of_eq (congrArg (fun z : List UInt8 => pT z) (show ([97,99] : List UInt8) = (usesS n) by (simp [usesS, *]; done)))) (w_ret (q_block_ret (q_then_ret fp)))))
 have c3_ := c3
 try simp only [sB] at c3
 refine w_R (qo hnt rfl (s_eql rfl rfl ?_))
 refine ae hnt rfl rfl (w_if rfl (fun c4 => ?_) (fun c4 => ?_))
 ·try simp only [sB] at c4
  exact sr (ae hnt rfl rfl (w_le (s := 2) (y := pT (usesS n)) rfl (le_of_eq (congrArg (fun z : List UInt8 => pT z) (show ([97,99] : List UInt8) = (usesS n) by (simp [usesS, *]; done)))) (w_ret (q_block_ret (q_then_ret fp)))))
 try simp only [sB] at c4
 refine sr (xp hnt 2 [.o 2] [] [(9,pB (decide (n = 5)))] (re (w_if rfl (fun c5 => ?_) (fun c5 => ?_))))
 ·try simp only [sB] at c5
  exact sr (ae hnt rfl rfl (w_le (s := 2) (y := pT (usesS n)) rfl (le_of_eq (congrArg (fun z : List UInt8 => pT z) (show ([97,98] : List UInt8) = (usesS n) by (simp [usesS, *]; done)))) (w_ret (q_block_ret (q_then_ret fp)))))
 try simp only [sB] at c5
 refine sr (xp hnt 2 [.o 2] [] [(11,pB (decide (n = 6)))] (re (w_if rfl (fun c6 => ?_) (fun c6 => ?_))))
 ·try simp only [sB] at c6
  exact sr (ae hnt rfl rfl (w_le (s := 2) (y := pT (usesS n)) rfl (le_of_eq (congrArg (fun z : List UInt8 => pT z) (show ([97,118] : List UInt8) = (usesS n) by (simp [usesS, *]; done)))) (w_ret (q_block_ret (q_then_ret fp)))))
 try simp only [sB] at c6
 refine sr (xp hnt 2 [.o 2] [] [(13,pB (decide (n = 8)))] (re (w_if rfl (fun c7 => ?_) (fun c7 => ?_))))
 ·try simp only [sB] at c7
  exact sr (ae hnt rfl rfl (w_le (s := 2) (y := pT (usesS n)) rfl (le_of_eq (congrArg (fun z : List UInt8 => pT z) (show ([115,118] : List UInt8) = (usesS n) by (simp [usesS, *]; done)))) (w_ret (q_block_ret (q_then_ret fp)))))
 try simp only [sB] at c7
 refine sr (xp hnt 2 [.o 2] [] [(15,pB (decide (n = 15)))] (re (w_if rfl (fun c8 => ?_) (fun c8 => ?_))))
 ·try simp only [sB] at c8
  exact sr (ae hnt rfl rfl (w_le (s := 2) (y := pT (usesS n)) rfl (le_of_eq (congrArg (fun z : List UInt8 => pT z) (show ([97,99,98] : List UInt8) = (usesS n) by (simp [usesS, *]; done)))) (w_ret (q_block_ret (q_then_ret fp)))))
 try simp only [sB] at c8
 refine sr (xp hnt 2 [.o 2] [] [(17,pB (decide (n = 16)))] (re (w_if rfl (fun c9 => ?_) (fun c9 => ?_))))
 ·try simp only [sB] at c9
  exact sr (ae hnt rfl rfl (w_le (s := 2) (y := pT (usesS n)) rfl (le_of_eq (congrArg (fun z : List UInt8 => pT z) (show ([97,99,118] : List UInt8) = (usesS n) by (simp [usesS, *]; done)))) (w_ret (q_block_ret (q_then_ret fp)))))
 try simp only [sB] at c9
 refine sr (xp hnt 2 [.o 2] [] [(19,pB (decide (n = 22)))] (re (w_if rfl (fun c10 => ?_) (fun c10 => ?_))))
 ·try simp only [sB] at c10
  exact sr (ae hnt rfl rfl (w_le (s := 2) (y := pT (usesS n)) rfl (le_of_eq (congrArg (fun z : List UInt8 => pT z) (show ([97,109] : List UInt8) = (usesS n) by (simp [usesS, *]; done)))) (w_ret (q_block_ret (q_then_ret fp)))))
 try simp only [sB] at c10
 refine sr (xp hnt 2 [.o 2] [] [(21,pB (decide (n = 23)))] (re (w_if rfl (fun c11 => ?_) (fun c11 => ?_))))
 ·try simp only [sB] at c11
  exact sr (ae hnt rfl rfl (w_le (s := 2) (y := pT (usesS n)) rfl (le_of_eq (congrArg (fun z : List UInt8 => pT z) (show ([97,99,119,118] : List UInt8) = (usesS n) by (simp [usesS, *]; done)))) (w_ret (q_block_ret (q_then_ret fp)))))
 try simp only [sB] at c11
 exact w_skip (q_block (q_then (sr (ae hnt rfl rfl (w_le (s := 2) (y := pT (usesS n)) rfl (le_of_eq (congrArg (fun z : List UInt8 => pT z) (show ([] : List UInt8) = (usesS n) by (simp [usesS, *]; done)))) (w_ret fp))))))
theorem w_burgageref3_in (s : List UInt8) (ch : UInt8) (hs : s.length ≤ 140737488351232) :
    T Try.prog 84 [pT s,p8 ch] 0 [] (Ret (pB (inS s ch)) 0 []) := by
 refine t_fun tabOk (n := 17) (rs := [.tmp 4]) Try.func84 rfl rfl rfl rfl (nb rfl) ?_
 intro c hnt hk
 refine sr (ae hnt rfl rfl (w_seq (sr (ae hnt rfl rfl (w_block (loop1 (fun (i : Nat) => i ≤ s.length ∧ ∀ x ∈ s.take i,x ≠ ch) (fun (i : Nat) => [(0,pT s),(1,p8 ch),(5,pN i)]) 0 (fun (i : Nat) => []) (fun (i : Nat) => s.length - i) (0) ?_ ⟨[],rfl,⟨⟨_,rfl,rfl,rfl⟩,⟨_,rfl,rfl,rfl⟩,⟨_,rfl,rfl,rfl⟩,trivial⟩,trivial,by rw [hk]; decide⟩ ?_))))))
 · exact ⟨Nat.zero_le _,by simp⟩
 ·intro i hI
  obtain ⟨hi,hn⟩ := hI
  refine w_seq (sr (qm hnt rfl rfl (qm hnt rfl rfl (qo hnt rfl (s_lenT (l := s) tab_9 rfl rfl ?_)))))
  refine qo hnt rfl (s_lss rfl rfl ?_)
  refine re (w_if rfl (fun c1 => ?_) (fun c1 => ?_))
  ·try simp only [sB] at c1
   refine w_skip (q_then (w_seq (w_block (sr (qm hnt rfl rfl (qm hnt rfl rfl ?_))))))
   obtain ⟨e1,he1⟩ := get_of_lt s (i := i) (by omega)
   refine qo hnt rfl (s_idxM (q := i) (b := e1) (s := s) tab_9 rfl rfl (by omega) rfl he1 ?_)
   refine qm hnt rfl rfl (qo hnt rfl (s_eql8 (a := e1) (b := ch) rfl rfl ?_))
   refine re (w_if rfl (fun c2 => ?_) (fun c2 => ?_))
   ·try simp only [sB] at c2
    exact sr (ae hnt rfl rfl (w_le (s := 4) (y := pB (inS s ch)) rfl (le_of_eq (congrArg pB (show true = (inS s ch) by unfold inS; exact (decide_eq_true (by rw [← (by simpa using c2 : e1 = ch)]; exact List.mem_of_getElem? he1)).symm))) (w_ret (q_block_ret (q_then_ret (q_then_ret (q_block_ret (q_then_ret fp))))))))
   try simp only [sB] at c2
   refine w_skip (q_block (q_then (w_R (qm hnt rfl rfl (qo hnt rfl (s_addN (a := i) (b := 1) rfl rfl (by omega) (by omega) (by omega) ?_))))))
   refine ae hnt rfl rfl (⟨(i + 1), ?_, ?_,⟨[],rfl,⟨⟨_,rfl,rfl,rfl⟩,⟨_,rfl,rfl,rfl⟩,⟨_,rfl,rfl,rfl⟩,trivial⟩,trivial,by rw [hk]; decide⟩⟩)
   ·refine ⟨by omega,fun x hx => ?_⟩
    rw [List.take_add_one,he1] at hx
    rcases List.mem_append.1 hx with h|h
    · exact hn x h
    · simp at h; subst h; simpa using c2
   · omega
  try simp only [sB] at c1
  have hn2 : ∀ x ∈ s,x ≠ ch := by rw [List.take_of_length_le (by omega)] at hn; exact hn
  exact w_exit (q_then_exit (q_then_exit (q_block_exit (q_then (sr (ae hnt rfl rfl (w_le (s := 4) (y := pB (inS s ch)) rfl (le_of_eq (congrArg pB (show false = (inS s ch) by unfold inS; exact (decide_eq_false (fun h => hn2 _ h rfl)).symm))) (w_ret fp))))))))
theorem w_burgageref3_lists (r : TRequest) (hb : r.bits.length ≤ 140737488351232) (hv : r.vals.length ≤ 140737488351232) :
    T Try.prog 93 [PV.f (eRequest r)] 0 [] (Ret (pB (listsR r)) 0 []) := by
 refine t_fun tabOk (n := 46) (rs := [.tmp 2]) Try.func93 rfl rfl rfl rfl (nb rfl) ?_
 intro c hnt hk
 refine sr (qo hnt rfl (s_box rfl rfl ?_))
 refine qa hnt rfl rfl (r_set [(1,PV.ptr 0 0)] [(0,.obj (cRequest r))] 1 ⟨rfl,trivial⟩ rfl rfl (re (w_seq (wdr hnt (xq 8 [.o 2,.c (pN r.bits.length),.o 2,.c (pN r.vals.length),.o 2] [lenC encBo r.bits,lenC enc16 r.vals] ?_ (hc := ⟨lenC_ok _ _,lenC_ok _ _,trivial⟩))))))
 refine xe [(1,PV.ptr 0 0),(3,pN r.bits.length),(4,pN r.vals.length)] (re (w_seq (sr (xp hnt 2 [.o 2] [] [(12,pI r.fn)] (re ?_)))))
 refine w_block (sr (xp hnt 2 [.o 2] [] [(13,pB (decide (r.fn = 5)))] (re (w_if rfl (fun c1 => ?_) (fun c1 => ?_)))))
 ·have c1_ := c1
  try simp only [sB] at c1
  refine sr (xp hnt 3 [.o 3] [] [(2,pB (decide (((r.bits.length : Nat) : Int) = 1)))] (re (w_le (s := 2) (y := pB (listsR r)) rfl (le_of_eq (congrArg pB (show (decide (((r.bits.length : Nat) : Int) = 1)) = (listsR r) by exact (listsR_5 (by assumption)).symm))) (w_ret (q_block_ret ?_)))))
  exact q_then_ret fp
 have c1_ := c1
 try simp only [sB] at c1
 refine w_seq (sr (xp hnt 2 [.o 2] [] [(17,pB (decide (r.fn = 6)))] (re (w_if rfl (fun c2 => ?_) (fun c2 => ?_)))))
 ·have c2_ := c2
  try simp only [sB] at c2
  refine w_skip (q_then (w_if rfl (fun _ => ?_) (fun e => absurd (e.symm.trans c2_) (by decide))))
  refine sr (xp hnt 3 [.o 3] [] [(2,pB (decide (((r.vals.length : Nat) : Int) = 1)))] (re (w_le (s := 2) (y := pB (listsR r)) rfl (le_of_eq (congrArg pB (show (decide (((r.vals.length : Nat) : Int) = 1)) = (listsR r) by exact (listsR_6 (by assumption)).symm))) (w_ret (q_block_ret ?_)))))
  exact q_then_ret fp
 have c2_ := c2
 try simp only [sB] at c2
 refine w_R (qo hnt rfl (s_eql rfl rfl ?_))
 refine ae hnt rfl rfl (w_if rfl (fun c3 => ?_) (fun c3 => ?_))
 ·have c3_ := c3
  try simp only [sB] at c3
  refine sr (xp hnt 3 [.o 3] [] [(2,pB (decide (((r.vals.length : Nat) : Int) = 1)))] (re (w_le (s := 2) (y := pB (listsR r)) rfl (le_of_eq (congrArg pB (show (decide (((r.vals.length : Nat) : Int) = 1)) = (listsR r) by exact (listsR_8 (by assumption)).symm))) (w_ret (q_block_ret ?_)))))
  exact q_then_ret fp
 have c3_ := c3
 try simp only [sB] at c3
 refine sr (qo hnt rfl (s_eql rfl rfl ?_))
 refine ae hnt rfl rfl (w_if rfl (fun c4 => ?_) (fun c4 => ?_))
 ·have c4_ := c4
  try simp only [sB] at c4
  refine sr (xp hnt 9 [.o 5,.b 2 [.o 2],.o 1] [] [(2,pB ((decide (((r.bits.length : Nat) : Int) = r.count)) && (decide (((r.bits.length : Nat) : Int) ≤ 2040))))] (re (w_le (s := 2) (y := pB (listsR r)) rfl (le_of_eq (congrArg pB (show ((decide (((r.bits.length : Nat) : Int) = r.count)) && (decide (((r.bits.length : Nat) : Int) ≤ 2040))) = (listsR r) by exact (listsR_15 (by assumption)).symm))) (w_ret (q_block_ret ?_)))))
  exact q_then_ret fp
 have c4_ := c4
 try simp only [sB] at c4
 refine sr (qo hnt rfl (s_eql rfl rfl ?_))
 refine ae hnt rfl rfl (w_if rfl (fun c5 => ?_) (fun c5 => ?_))
 ·have c5_ := c5
  try simp only [sB] at c5
  refine sr (xp hnt 9 [.o 5,.b 2 [.o 2],.o 1] [] [(2,pB ((decide (((r.vals.length : Nat) : Int) = r.count)) && (decide (((r.vals.length : Nat) : Int) ≤ 127))))] (re (w_le (s := 2) (y := pB (listsR r)) rfl (le_of_eq (congrArg pB (show ((decide (((r.vals.length : Nat) : Int) = r.count)) && (decide (((r.vals.length : Nat) : Int) ≤ 127))) = (listsR r) by exact (listsR_16 (by assumption)).symm))) (w_ret (q_block_ret ?_)))))
  exact q_then_ret fp
 have c5_ := c5
 try simp only [sB] at c5
 refine sr (qo hnt rfl (s_eql rfl rfl ?_))
 refine ae hnt rfl rfl (w_if rfl (fun c6 => ?_) (fun c6 => ?_))
 ·have c6_ := c6
  try simp only [sB] at c6
  refine sr (qm hnt rfl rfl (qo hnt rfl (s_leq rfl rfl ?_)))
  exact ae hnt rfl rfl (w_le (s := 2) (y := pB (listsR r)) rfl (le_of_eq (congrArg pB (show (decide (((r.vals.length : Nat) : Int) ≤ 127)) = (listsR r) by exact (listsR_23 (by assumption)).symm))) (w_ret (q_block_ret (q_then_ret fp))))
 have c6_ := c6
 try simp only [sB] at c6
 exact w_skip (q_block (q_then (sr (ae hnt rfl rfl (w_le (s := 2) (y := pB (listsR r)) rfl (le_of_eq (congrArg pB (show true = (listsR r) by exact (listsR_no (by omega)).symm))) (w_ret fp))))))
theorem w_burgageref3_Right (r : TRequest) (hb : r.bits.length ≤ 140737488351232) (hv : r.vals.length ≤ 140737488351232) :
    T Try.prog 74 [PV.f (eRequest r)] 0 [] (Ret (pI (rightR r)) 0 []) := by
 refine t_fun tabOk (n := 113) (rs := [.tmp 2]) Try.func74 rfl rfl rfl rfl (nb rfl) ?_
 intro c hnt hk
 refine sr (qo hnt rfl (s_box rfl rfl ?_))
 refine qa hnt rfl rfl (r_set [(1,PV.ptr 0 0)] [(0,.obj (cRequest r))] 1 ⟨rfl,trivial⟩ rfl rfl (re (w_seq (sr (xp hnt 2 [.o 2] [] [(5,pI r.fn)] ?_)))))
 refine qo hnt rfl (s_callF rfl rfl rfl (w_burgageref3_Has r.fn) rfl ?_)
 refine qo hnt rfl (s_not rfl ?_)
 refine re (w_if rfl (fun c1 => ?_) (fun c1 => ?_))
 ·have c1_ := c1
  try simp only [sB] at c1
  exact sr (ae hnt rfl rfl (w_le (s := 2) (y := pI (rightR r)) rfl (le_of_eq (congrArg pI (show 15 = (rightR r) by exact (rightR_1 c1_).symm))) (w_ret (q_then_ret fp))))
 have c1_ := c1
 try simp only [sB] at c1
 refine w_skip (q_then (sr (xp hnt 2 [.o 2] [] [(9,pI r.fn)] (qo hnt rfl (s_callF rfl rfl rfl (w_burgageref3_uses r.fn) rfl ?_)))))
 refine ae hnt rfl rfl (w_seq (sr (qm hnt rfl rfl (qo hnt rfl (s_callF rfl rfl rfl (w_burgageref3_in (usesS r.fn) 97 (by have := usesS_len r.fn; omega)) rfl ?_)))))
 refine xp hnt 7 [.o 2,.b 3 [.o 3],.o 1] [] [(19,pB ((!(inS (usesS r.fn) 97)) && (!decide (r.at_ = 0))))] (r_cut0 9 [(1,PV.ptr 0 0),(3,pT (usesS r.fn)),(28,pB (((!(inS (usesS r.fn) 97)) && (!decide (r.at_ = 0))) || ((!(inS (usesS r.fn) 99)) && (!decide (r.count = 0)))))] ?_ ?_)
 ·refine r_if tabOk hnt rfl rfl rfl (fun g2 => ?_) (fun g2 => ?_)
  ·have g2' := g2
   try simp only [sB] at g2'
   refine qm hnt rfl rfl (ry hnt rfl rfl rfl g2 (qo hnt rfl (s_callF rfl rfl rfl (w_burgageref3_in (usesS r.fn) 99 (by have := usesS_len r.fn; omega)) rfl ?_)))
   refine ry hnt rfl rfl rfl g2 (qo hnt rfl (s_not rfl ?_))
   refine ry hnt rfl rfl rfl g2 (qm hnt rfl rfl (r_cut0 4 [(1,PV.ptr 0 0),(3,pT (usesS r.fn)),(19,pB ((!(inS (usesS r.fn) 97)) && (!decide (r.at_ = 0)))),(27,pB ((!(inS (usesS r.fn) 99)) && (!decide (r.count = 0))))] ?_ ?_))
   ·refine r_if tabOk hnt rfl rfl rfl (fun g3 => ?_) (fun g3 => ?_)
    ·have g3' := g3
     try simp only [sB] at g3'
     refine qo hnt rfl (s_fa_ptr tab_37 rfl rfl tab_3 (by decide) rfl ?_)
     refine ry hnt rfl rfl rfl g3 (qo hnt rfl (s_load_ptr1 tab_3 rfl rfl rfl rfl rfl ?_))
     refine ry hnt rfl rfl rfl g3 (qo hnt rfl (s_neq rfl rfl ?_))
     refine ry hnt rfl rfl rfl g2 (qo hnt rfl (s_pick_t rfl g3 rfl ?_))
     refine r_eq (s := 27) (y := pB ((!(inS (usesS r.fn) 99)) && (!decide (r.count = 0)))) rfl (mix_at g3) ?_
     exact r_mid ⟨⟨rfl,rfl,rfl,rfl,trivial⟩,rfl,rfl⟩
    ·have g3' := g3
     try simp only [sB] at g3'
     refine rn hnt rfl rfl rfl g3 (rn hnt rfl rfl rfl g3 (ry hnt rfl rfl rfl g2 (qo hnt rfl (s_pick_f rfl g3 rfl ?_))))
     refine r_eq (s := 27) (y := pB ((!(inS (usesS r.fn) 99)) && (!decide (r.count = 0)))) rfl (mix_af _ g3) ?_
     exact r_mid ⟨⟨rfl,rfl,rfl,rfl,trivial⟩,rfl,rfl⟩
   ·refine qo hnt rfl (s_pick_f rfl g2 rfl ?_)
    refine r_eq (s := 28) (y := pB (((!(inS (usesS r.fn) 97)) && (!decide (r.at_ = 0))) || ((!(inS (usesS r.fn) 99)) && (!decide (r.count = 0))))) rfl (mix_of g2) ?_
    exact r_mid ⟨⟨rfl,rfl,rfl,trivial⟩,rfl,rfl⟩
  ·have g2' := g2
   try simp only [sB] at g2'
   refine rn hnt rfl rfl rfl g2 (rn hnt rfl rfl rfl g2 (rn hnt rfl rfl rfl g2 (ru hnt rfl rfl rfl (ru hnt rfl rfl rfl (ru hnt rfl rfl rfl (rn hnt rfl rfl rfl g2 (qo hnt rfl (s_pick_t rfl g2 rfl ?_))))))))
   refine r_eq (s := 28) (y := pB (((!(inS (usesS r.fn) 97)) && (!decide (r.at_ = 0))) || ((!(inS (usesS r.fn) 99)) && (!decide (r.count = 0))))) rfl (mix_ot _ g2) ?_
   exact r_mid ⟨⟨rfl,rfl,rfl,trivial⟩,rfl,rfl⟩
 ·refine qm hnt rfl rfl (r_cut0 9 [(1,PV.ptr 0 0),(3,pT (usesS r.fn)),(38,pB ((((!(inS (usesS r.fn) 97)) && (!decide (r.at_ = 0))) || ((!(inS (usesS r.fn) 99)) && (!decide (r.count = 0)))) || ((!(inS (usesS r.fn) 119)) && (!decide (r.wAt = 0)))))] ?_ ?_)
  ·refine r_if tabOk hnt rfl rfl rfl (fun g4 => ?_) (fun g4 => ?_)
   ·have g4' := g4
    try simp only [sB] at g4'
    refine qm hnt rfl rfl (ry hnt rfl rfl rfl g4 (qo hnt rfl (s_callF rfl rfl rfl (w_burgageref3_in (usesS r.fn) 119 (by have := usesS_len r.fn; omega)) rfl ?_)))
    refine ry hnt rfl rfl rfl g4 (qo hnt rfl (s_not rfl ?_))
    refine ry hnt rfl rfl rfl g4 (qm hnt rfl rfl (r_cut0 4 [(1,PV.ptr 0 0),(3,pT (usesS r.fn)),(29,pB (((!(inS (usesS r.fn) 97)) && (!decide (r.at_ = 0))) || ((!(inS (usesS r.fn) 99)) && (!decide (r.count = 0))))),(37,pB ((!(inS (usesS r.fn) 119)) && (!decide (r.wAt = 0))))] ?_ ?_))
    ·refine r_if tabOk hnt rfl rfl rfl (fun g5 => ?_) (fun g5 => ?_)
     ·have g5' := g5
      try simp only [sB] at g5'
      refine qo hnt rfl (s_fa_ptr tab_37 rfl rfl tab_3 (by decide) rfl ?_)
      refine ry hnt rfl rfl rfl g5 (qo hnt rfl (s_load_ptr1 tab_3 rfl rfl rfl rfl rfl ?_))
      refine ry hnt rfl rfl rfl g5 (qo hnt rfl (s_neq rfl rfl ?_))
      refine ry hnt rfl rfl rfl g4 (qo hnt rfl (s_pick_t rfl g5 rfl ?_))
      refine r_eq (s := 37) (y := pB ((!(inS (usesS r.fn) 119)) && (!decide (r.wAt = 0)))) rfl (mix_at g5) ?_
      exact r_mid ⟨⟨rfl,rfl,rfl,rfl,trivial⟩,rfl,rfl⟩
     ·have g5' := g5
      try simp only [sB] at g5'
      refine rn hnt rfl rfl rfl g5 (rn hnt rfl rfl rfl g5 (ry hnt rfl rfl rfl g4 (qo hnt rfl (s_pick_f rfl g5 rfl ?_))))
      refine r_eq (s := 37) (y := pB ((!(inS (usesS r.fn) 119)) && (!decide (r.wAt = 0)))) rfl (mix_af _ g5) ?_
      exact r_mid ⟨⟨rfl,rfl,rfl,rfl,trivial⟩,rfl,rfl⟩
    ·refine qo hnt rfl (s_pick_f rfl g4 rfl ?_)
     refine r_eq (s := 38) (y := pB ((((!(inS (usesS r.fn) 97)) && (!decide (r.at_ = 0))) || ((!(inS (usesS r.fn) 99)) && (!decide (r.count = 0)))) || ((!(inS (usesS r.fn) 119)) && (!decide (r.wAt = 0))))) rfl (mix_of g4) ?_
     exact r_mid ⟨⟨rfl,rfl,rfl,trivial⟩,rfl,rfl⟩
   ·have g4' := g4
    try simp only [sB] at g4'
    refine rn hnt rfl rfl rfl g4 (rn hnt rfl rfl rfl g4 (rn hnt rfl rfl rfl g4 (ru hnt rfl rfl rfl (ru hnt rfl rfl rfl (ru hnt rfl rfl rfl (rn hnt rfl rfl rfl g4 (qo hnt rfl (s_pick_t rfl g4 rfl ?_))))))))
    refine r_eq (s := 38) (y := pB ((((!(inS (usesS r.fn) 97)) && (!decide (r.at_ = 0))) || ((!(inS (usesS r.fn) 99)) && (!decide (r.count = 0)))) || ((!(inS (usesS r.fn) 119)) && (!decide (r.wAt = 0))))) rfl (mix_ot _ g4) ?_
    exact r_mid ⟨⟨rfl,rfl,rfl,trivial⟩,rfl,rfl⟩
  ·refine qm hnt rfl rfl (r_cut0 9 [(1,PV.ptr 0 0),(3,pT (usesS r.fn)),(48,pB (((((!(inS (usesS r.fn) 97)) && (!decide (r.at_ = 0))) || ((!(inS (usesS r.fn) 99)) && (!decide (r.count = 0)))) || ((!(inS (usesS r.fn) 119)) && (!decide (r.wAt = 0)))) || ((!(inS (usesS r.fn) 115)) && (!decide (r.sub = 0)))))] ?_ ?_)
   ·refine r_if tabOk hnt rfl rfl rfl (fun g6 => ?_) (fun g6 => ?_)
    ·have g6' := g6
     try simp only [sB] at g6'
     refine qm hnt rfl rfl (ry hnt rfl rfl rfl g6 (qo hnt rfl (s_callF rfl rfl rfl (w_burgageref3_in (usesS r.fn) 115 (by have := usesS_len r.fn; omega)) rfl ?_)))
     refine ry hnt rfl rfl rfl g6 (qo hnt rfl (s_not rfl ?_))
     refine ry hnt rfl rfl rfl g6 (qm hnt rfl rfl (r_cut0 4 [(1,PV.ptr 0 0),(3,pT (usesS r.fn)),(39,pB ((((!(inS (usesS r.fn) 97)) && (!decide (r.at_ = 0))) || ((!(inS (usesS r.fn) 99)) && (!decide (r.count = 0)))) || ((!(inS (usesS r.fn) 119)) && (!decide (r.wAt = 0))))),(47,pB ((!(inS (usesS r.fn) 115)) && (!decide (r.sub = 0))))] ?_ ?_))
     ·refine r_if tabOk hnt rfl rfl rfl (fun g7 => ?_) (fun g7 => ?_)
      ·have g7' := g7
       try simp only [sB] at g7'
       refine qo hnt rfl (s_fa_ptr tab_37 rfl rfl tab_3 (by decide) rfl ?_)
       refine ry hnt rfl rfl rfl g7 (qo hnt rfl (s_load_ptr1 tab_3 rfl rfl rfl rfl rfl ?_))
       refine ry hnt rfl rfl rfl g7 (qo hnt rfl (s_neq rfl rfl ?_))
       refine ry hnt rfl rfl rfl g6 (qo hnt rfl (s_pick_t rfl g7 rfl ?_))
       refine r_eq (s := 47) (y := pB ((!(inS (usesS r.fn) 115)) && (!decide (r.sub = 0)))) rfl (mix_at g7) ?_
       exact r_mid ⟨⟨rfl,rfl,rfl,rfl,trivial⟩,rfl,rfl⟩
      ·have g7' := g7
       try simp only [sB] at g7'
       refine rn hnt rfl rfl rfl g7 (rn hnt rfl rfl rfl g7 (ry hnt rfl rfl rfl g6 (qo hnt rfl (s_pick_f rfl g7 rfl ?_))))
       refine r_eq (s := 47) (y := pB ((!(inS (usesS r.fn) 115)) && (!decide (r.sub = 0)))) rfl (mix_af _ g7) ?_
       exact r_mid ⟨⟨rfl,rfl,rfl,rfl,trivial⟩,rfl,rfl⟩
     ·refine qo hnt rfl (s_pick_f rfl g6 rfl ?_)
      refine r_eq (s := 48) (y := pB (((((!(inS (usesS r.fn) 97)) && (!decide (r.at_ = 0))) || ((!(inS (usesS r.fn) 99)) && (!decide (r.count = 0)))) || ((!(inS (usesS r.fn) 119)) && (!decide (r.wAt = 0)))) || ((!(inS (usesS r.fn) 115)) && (!decide (r.sub = 0))))) rfl (mix_of g6) ?_
      exact r_mid ⟨⟨rfl,rfl,rfl,trivial⟩,rfl,rfl⟩
    ·have g6' := g6
     try simp only [sB] at g6'
     refine rn hnt rfl rfl rfl g6 (rn hnt rfl rfl rfl g6 (rn hnt rfl rfl rfl g6 (ru hnt rfl rfl rfl (ru hnt rfl rfl rfl (ru hnt rfl rfl rfl (rn hnt rfl rfl rfl g6 (qo hnt rfl (s_pick_t rfl g6 rfl ?_))))))))
     refine r_eq (s := 48) (y := pB (((((!(inS (usesS r.fn) 97)) && (!decide (r.at_ = 0))) || ((!(inS (usesS r.fn) 99)) && (!decide (r.count = 0)))) || ((!(inS (usesS r.fn) 119)) && (!decide (r.wAt = 0)))) || ((!(inS (usesS r.fn) 115)) && (!decide (r.sub = 0))))) rfl (mix_ot _ g6) ?_
     exact r_mid ⟨⟨rfl,rfl,rfl,trivial⟩,rfl,rfl⟩
   ·refine qm hnt rfl rfl (r_cut0 10 [(1,PV.ptr 0 0),(3,pT (usesS r.fn)),(59,pB ((((((!(inS (usesS r.fn) 97)) && (!decide (r.at_ = 0))) || ((!(inS (usesS r.fn) 99)) && (!decide (r.count = 0)))) || ((!(inS (usesS r.fn) 119)) && (!decide (r.wAt = 0)))) || ((!(inS (usesS r.fn) 115)) && (!decide (r.sub = 0)))) || ((!(inS (usesS r.fn) 98)) && (decide (0 < ((r.bits.length : Nat) : Int))))))] ?_ ?_)
    ·refine r_if tabOk hnt rfl rfl rfl (fun g8 => ?_) (fun g8 => ?_)
     ·have g8' := g8
      try simp only [sB] at g8'
      refine qm hnt rfl rfl (ry hnt rfl rfl rfl g8 (qo hnt rfl (s_callF rfl rfl rfl (w_burgageref3_in (usesS r.fn) 98 (by have := usesS_len r.fn; omega)) rfl ?_)))
      refine ry hnt rfl rfl rfl g8 (qo hnt rfl (s_not rfl ?_))
      refine ry hnt rfl rfl rfl g8 (qm hnt rfl rfl (r_cut0 5 [(1,PV.ptr 0 0),(3,pT (usesS r.fn)),(49,pB (((((!(inS (usesS r.fn) 97)) && (!decide (r.at_ = 0))) || ((!(inS (usesS r.fn) 99)) && (!decide (r.count = 0)))) || ((!(inS (usesS r.fn) 119)) && (!decide (r.wAt = 0)))) || ((!(inS (usesS r.fn) 115)) && (!decide (r.sub = 0))))),(58,pB ((!(inS (usesS r.fn) 98)) && (decide (0 < ((r.bits.length : Nat) : Int)))))] ?_ ?_))
      ·refine r_if tabOk hnt rfl rfl rfl (fun g9 => ?_) (fun g9 => ?_)
       ·have g9' := g9
        try simp only [sB] at g9'
        refine qo hnt rfl (s_fa_ptr tab_37 rfl rfl tab_33 (by decide) rfl ?_)
        refine ry hnt rfl rfl rfl g9 (qo hnt rfl (s_load_ptr1 tab_33 rfl rfl rfl rfl rfl ?_))
        refine ry hnt rfl rfl rfl g9 (qo hnt rfl (s_lenM (l := r.bits) tab_33 rfl (hM_sl (f := encBo) rfl) ?_))
        refine ry hnt rfl rfl rfl g9 (qo hnt rfl (s_gtr rfl rfl ?_))
        refine ry hnt rfl rfl rfl g8 (qo hnt rfl (s_pick_t rfl g9 rfl ?_))
        refine r_eq (s := 58) (y := pB ((!(inS (usesS r.fn) 98)) && (decide (0 < ((r.bits.length : Nat) : Int))))) rfl (mix_at g9) ?_
        exact r_mid ⟨⟨rfl,rfl,rfl,rfl,trivial⟩,rfl,rfl⟩
       ·have g9' := g9
        try simp only [sB] at g9'
        refine rn hnt rfl rfl rfl g9 (rn hnt rfl rfl rfl g9 (rn hnt rfl rfl rfl g9 (ry hnt rfl rfl rfl g8 (qo hnt rfl (s_pick_f rfl g9 rfl ?_)))))
        refine r_eq (s := 58) (y := pB ((!(inS (usesS r.fn) 98)) && (decide (0 < ((r.bits.length : Nat) : Int))))) rfl (mix_af _ g9) ?_
        exact r_mid ⟨⟨rfl,rfl,rfl,rfl,trivial⟩,rfl,rfl⟩
      ·refine qo hnt rfl (s_pick_f rfl g8 rfl ?_)
       refine r_eq (s := 59) (y := pB ((((((!(inS (usesS r.fn) 97)) && (!decide (r.at_ = 0))) || ((!(inS (usesS r.fn) 99)) && (!decide (r.count = 0)))) || ((!(inS (usesS r.fn) 119)) && (!decide (r.wAt = 0)))) || ((!(inS (usesS r.fn) 115)) && (!decide (r.sub = 0)))) || ((!(inS (usesS r.fn) 98)) && (decide (0 < ((r.bits.length : Nat) : Int)))))) rfl (mix_of g8) ?_
       exact r_mid ⟨⟨rfl,rfl,rfl,trivial⟩,rfl,rfl⟩
     ·have g8' := g8
      try simp only [sB] at g8'
      refine rn hnt rfl rfl rfl g8 (rn hnt rfl rfl rfl g8 (rn hnt rfl rfl rfl g8 (ru hnt rfl rfl rfl (ru hnt rfl rfl rfl (ru hnt rfl rfl rfl (ru hnt rfl rfl rfl (rn hnt rfl rfl rfl g8 (qo hnt rfl (s_pick_t rfl g8 rfl ?_)))))))))
      refine r_eq (s := 59) (y := pB ((((((!(inS (usesS r.fn) 97)) && (!decide (r.at_ = 0))) || ((!(inS (usesS r.fn) 99)) && (!decide (r.count = 0)))) || ((!(inS (usesS r.fn) 119)) && (!decide (r.wAt = 0)))) || ((!(inS (usesS r.fn) 115)) && (!decide (r.sub = 0)))) || ((!(inS (usesS r.fn) 98)) && (decide (0 < ((r.bits.length : Nat) : Int)))))) rfl (mix_ot _ g8) ?_
      exact r_mid ⟨⟨rfl,rfl,rfl,trivial⟩,rfl,rfl⟩
    ·refine qm hnt rfl rfl (r_cut0 10 [(1,PV.ptr 0 0),(3,pT (usesS r.fn)),(70,pB (((((((!(inS (usesS r.fn) 97)) && (!decide (r.at_ = 0))) || ((!(inS (usesS r.fn) 99)) && (!decide (r.count = 0)))) || ((!(inS (usesS r.fn) 119)) && (!decide (r.wAt = 0)))) || ((!(inS (usesS r.fn) 115)) && (!decide (r.sub = 0)))) || ((!(inS (usesS r.fn) 98)) && (decide (0 < ((r.bits.length : Nat) : Int))))) || ((!(inS (usesS r.fn) 118)) && (decide (0 < ((r.vals.length : Nat) : Int))))))] ?_ ?_)
     ·refine r_if tabOk hnt rfl rfl rfl (fun g10 => ?_) (fun g10 => ?_)
      ·have g10' := g10
       try simp only [sB] at g10'
       refine qm hnt rfl rfl (ry hnt rfl rfl rfl g10 (qo hnt rfl (s_callF rfl rfl rfl (w_burgageref3_in (usesS r.fn) 118 (by have := usesS_len r.fn; omega)) rfl ?_)))
       refine ry hnt rfl rfl rfl g10 (qo hnt rfl (s_not rfl ?_))
       refine ry hnt rfl rfl rfl g10 (qm hnt rfl rfl (r_cut0 5 [(1,PV.ptr 0 0),(3,pT (usesS r.fn)),(60,pB ((((((!(inS (usesS r.fn) 97)) && (!decide (r.at_ = 0))) || ((!(inS (usesS r.fn) 99)) && (!decide (r.count = 0)))) || ((!(inS (usesS r.fn) 119)) && (!decide (r.wAt = 0)))) || ((!(inS (usesS r.fn) 115)) && (!decide (r.sub = 0)))) || ((!(inS (usesS r.fn) 98)) && (decide (0 < ((r.bits.length : Nat) : Int)))))),(69,pB ((!(inS (usesS r.fn) 118)) && (decide (0 < ((r.vals.length : Nat) : Int)))))] ?_ ?_))
       ·refine r_if tabOk hnt rfl rfl rfl (fun g11 => ?_) (fun g11 => ?_)
        ·have g11' := g11
         try simp only [sB] at g11'
         refine qo hnt rfl (s_fa_ptr tab_37 rfl rfl tab_34 (by decide) rfl ?_)
         refine ry hnt rfl rfl rfl g11 (qo hnt rfl (s_load_ptr1 tab_34 rfl rfl rfl rfl rfl ?_))
         refine ry hnt rfl rfl rfl g11 (qo hnt rfl (s_lenM (l := r.vals) tab_34 rfl (hM_sl (f := enc16) rfl) ?_))
         refine ry hnt rfl rfl rfl g11 (qo hnt rfl (s_gtr rfl rfl ?_))
         refine ry hnt rfl rfl rfl g10 (qo hnt rfl (s_pick_t rfl g11 rfl ?_))
         refine r_eq (s := 69) (y := pB ((!(inS (usesS r.fn) 118)) && (decide (0 < ((r.vals.length : Nat) : Int))))) rfl (mix_at g11) ?_
         exact r_mid ⟨⟨rfl,rfl,rfl,rfl,trivial⟩,rfl,rfl⟩
        ·have g11' := g11
         try simp only [sB] at g11'
         refine rn hnt rfl rfl rfl g11 (rn hnt rfl rfl rfl g11 (rn hnt rfl rfl rfl g11 (ry hnt rfl rfl rfl g10 (qo hnt rfl (s_pick_f rfl g11 rfl ?_)))))
         refine r_eq (s := 69) (y := pB ((!(inS (usesS r.fn) 118)) && (decide (0 < ((r.vals.length : Nat) : Int))))) rfl (mix_af _ g11) ?_
         exact r_mid ⟨⟨rfl,rfl,rfl,rfl,trivial⟩,rfl,rfl⟩
       ·refine qo hnt rfl (s_pick_f rfl g10 rfl ?_)
        refine r_eq (s := 70) (y := pB (((((((!(inS (usesS r.fn) 97)) && (!decide (r.at_ = 0))) || ((!(inS (usesS r.fn) 99)) && (!decide (r.count = 0)))) || ((!(inS (usesS r.fn) 119)) && (!decide (r.wAt = 0)))) || ((!(inS (usesS r.fn) 115)) && (!decide (r.sub = 0)))) || ((!(inS (usesS r.fn) 98)) && (decide (0 < ((r.bits.length : Nat) : Int))))) || ((!(inS (usesS r.fn) 118)) && (decide (0 < ((r.vals.length : Nat) : Int)))))) rfl (mix_of g10) ?_
        exact r_mid ⟨⟨rfl,rfl,rfl,trivial⟩,rfl,rfl⟩
      ·have g10' := g10
       try simp only [sB] at g10'
       refine rn hnt rfl rfl rfl g10 (rn hnt rfl rfl rfl g10 (rn hnt rfl rfl rfl g10 (ru hnt rfl rfl rfl (ru hnt rfl rfl rfl (ru hnt rfl rfl rfl (ru hnt rfl rfl rfl (rn hnt rfl rfl rfl g10 (qo hnt rfl (s_pick_t rfl g10 rfl ?_)))))))))
       refine r_eq (s := 70) (y := pB (((((((!(inS (usesS r.fn) 97)) && (!decide (r.at_ = 0))) || ((!(inS (usesS r.fn) 99)) && (!decide (r.count = 0)))) || ((!(inS (usesS r.fn) 119)) && (!decide (r.wAt = 0)))) || ((!(inS (usesS r.fn) 115)) && (!decide (r.sub = 0)))) || ((!(inS (usesS r.fn) 98)) && (decide (0 < ((r.bits.length : Nat) : Int))))) || ((!(inS (usesS r.fn) 118)) && (decide (0 < ((r.vals.length : Nat) : Int)))))) rfl (mix_ot _ g10) ?_
       exact r_mid ⟨⟨rfl,rfl,rfl,trivial⟩,rfl,rfl⟩
     ·refine qm hnt rfl rfl (r_cut0 14 [(1,PV.ptr 0 0),(85,pB ((((((((!(inS (usesS r.fn) 97)) && (!decide (r.at_ = 0))) || ((!(inS (usesS r.fn) 99)) && (!decide (r.count = 0)))) || ((!(inS (usesS r.fn) 119)) && (!decide (r.wAt = 0)))) || ((!(inS (usesS r.fn) 115)) && (!decide (r.sub = 0)))) || ((!(inS (usesS r.fn) 98)) && (decide (0 < ((r.bits.length : Nat) : Int))))) || ((!(inS (usesS r.fn) 118)) && (decide (0 < ((r.vals.length : Nat) : Int))))) || ((!(inS (usesS r.fn) 109)) && ((!decide (r.and_ = 0)) || (!decide (r.or_ = 0))))))] ?_ ?_)
      ·refine r_if tabOk hnt rfl rfl rfl (fun g12 => ?_) (fun g12 => ?_)
       ·have g12' := g12
        try simp only [sB] at g12'
        refine qm hnt rfl rfl (ry hnt rfl rfl rfl g12 (qo hnt rfl (s_callF rfl rfl rfl (w_burgageref3_in (usesS r.fn) 109 (by have := usesS_len r.fn; omega)) rfl ?_)))
        refine ry hnt rfl rfl rfl g12 (qo hnt rfl (s_not rfl ?_))
        refine ry hnt rfl rfl rfl g12 (qm hnt rfl rfl (r_cut0 9 [(1,PV.ptr 0 0),(71,pB (((((((!(inS (usesS r.fn) 97)) && (!decide (r.at_ = 0))) || ((!(inS (usesS r.fn) 99)) && (!decide (r.count = 0)))) || ((!(inS (usesS r.fn) 119)) && (!decide (r.wAt = 0)))) || ((!(inS (usesS r.fn) 115)) && (!decide (r.sub = 0)))) || ((!(inS (usesS r.fn) 98)) && (decide (0 < ((r.bits.length : Nat) : Int))))) || ((!(inS (usesS r.fn) 118)) && (decide (0 < ((r.vals.length : Nat) : Int)))))),(84,pB ((!(inS (usesS r.fn) 109)) && ((!decide (r.and_ = 0)) || (!decide (r.or_ = 0)))))] ?_ ?_))
        ·refine r_if tabOk hnt rfl rfl rfl (fun g13 => ?_) (fun g13 => ?_)
         ·have g13' := g13
          try simp only [sB] at g13'
          refine qo hnt rfl (s_fa_ptr tab_37 rfl rfl tab_35 (by decide) rfl ?_)
          refine ry hnt rfl rfl rfl g13 (qo hnt rfl (s_load_ptr1 tab_35 rfl rfl rfl rfl rfl ?_))
          refine ry hnt rfl rfl rfl g13 (qo hnt rfl (s_neq16 (a := r.and_) (b := 0) rfl rfl ?_))
          refine ry hnt rfl rfl rfl g13 (qm hnt rfl rfl (r_cut0 4 [(1,PV.ptr 0 0),(71,pB (((((((!(inS (usesS r.fn) 97)) && (!decide (r.at_ = 0))) || ((!(inS (usesS r.fn) 99)) && (!decide (r.count = 0)))) || ((!(inS (usesS r.fn) 119)) && (!decide (r.wAt = 0)))) || ((!(inS (usesS r.fn) 115)) && (!decide (r.sub = 0)))) || ((!(inS (usesS r.fn) 98)) && (decide (0 < ((r.bits.length : Nat) : Int))))) || ((!(inS (usesS r.fn) 118)) && (decide (0 < ((r.vals.length : Nat) : Int)))))),(75,pB (!(inS (usesS r.fn) 109))),(83,pB ((!decide (r.and_ = 0)) || (!decide (r.or_ = 0))))] ?_ ?_))
          ·refine r_if tabOk hnt rfl rfl rfl (fun g14 => ?_) (fun g14 => ?_)
           ·have g14' := g14
            try simp only [sB] at g14'
            refine qo hnt rfl (s_fa_ptr tab_37 rfl rfl tab_35 (by decide) rfl ?_)
            refine ry hnt rfl rfl rfl g14 (qo hnt rfl (s_load_ptr1 tab_35 rfl rfl rfl rfl rfl ?_))
            refine ry hnt rfl rfl rfl g14 (qo hnt rfl (s_neq16 (a := r.or_) (b := 0) rfl rfl ?_))
            refine ry hnt rfl rfl rfl g13 (qo hnt rfl (s_pick_f rfl g14 rfl ?_))
            refine r_eq (s := 83) (y := pB ((!decide (r.and_ = 0)) || (!decide (r.or_ = 0)))) rfl (mix_of g14) ?_
            exact r_mid ⟨⟨rfl,rfl,rfl,rfl,trivial⟩,rfl,rfl⟩
           ·have g14' := g14
            try simp only [sB] at g14'
            refine rn hnt rfl rfl rfl g14 (rn hnt rfl rfl rfl g14 (ry hnt rfl rfl rfl g13 (qo hnt rfl (s_pick_t rfl g14 rfl ?_))))
            refine r_eq (s := 83) (y := pB ((!decide (r.and_ = 0)) || (!decide (r.or_ = 0)))) rfl (mix_ot _ g14) ?_
            exact r_mid ⟨⟨rfl,rfl,rfl,rfl,trivial⟩,rfl,rfl⟩
          ·refine ry hnt rfl rfl rfl g12 (qo hnt rfl (s_pick_t rfl g13 rfl ?_))
           refine r_eq (s := 84) (y := pB ((!(inS (usesS r.fn) 109)) && ((!decide (r.and_ = 0)) || (!decide (r.or_ = 0))))) rfl (mix_at g13) ?_
           exact r_mid ⟨⟨rfl,rfl,rfl,trivial⟩,rfl,rfl⟩
         ·have g13' := g13
          try simp only [sB] at g13'
          refine rn hnt rfl rfl rfl g13 (rn hnt rfl rfl rfl g13 (rn hnt rfl rfl rfl g13 (ru hnt rfl rfl rfl (ru hnt rfl rfl rfl (ru hnt rfl rfl rfl (rn hnt rfl rfl rfl g13 (ry hnt rfl rfl rfl g12 (qo hnt rfl (s_pick_f rfl g13 rfl ?_)))))))))
          refine r_eq (s := 84) (y := pB ((!(inS (usesS r.fn) 109)) && ((!decide (r.and_ = 0)) || (!decide (r.or_ = 0))))) rfl (mix_af _ g13) ?_
          exact r_mid ⟨⟨rfl,rfl,rfl,trivial⟩,rfl,rfl⟩
        ·refine qo hnt rfl (s_pick_f rfl g12 rfl ?_)
         refine r_eq (s := 85) (y := pB ((((((((!(inS (usesS r.fn) 97)) && (!decide (r.at_ = 0))) || ((!(inS (usesS r.fn) 99)) && (!decide (r.count = 0)))) || ((!(inS (usesS r.fn) 119)) && (!decide (r.wAt = 0)))) || ((!(inS (usesS r.fn) 115)) && (!decide (r.sub = 0)))) || ((!(inS (usesS r.fn) 98)) && (decide (0 < ((r.bits.length : Nat) : Int))))) || ((!(inS (usesS r.fn) 118)) && (decide (0 < ((r.vals.length : Nat) : Int))))) || ((!(inS (usesS r.fn) 109)) && ((!decide (r.and_ = 0)) || (!decide (r.or_ = 0)))))) rfl (mix_of g12) ?_
         exact r_mid ⟨⟨rfl,rfl,trivial⟩,rfl,rfl⟩
       ·have g12' := g12
        try simp only [sB] at g12'
        refine rn hnt rfl rfl rfl g12 (rn hnt rfl rfl rfl g12 (rn hnt rfl rfl rfl g12 (ru hnt rfl rfl rfl (ru hnt rfl rfl rfl (ru hnt rfl rfl rfl (ru hnt rfl rfl rfl (ru hnt rfl rfl rfl (ru hnt rfl rfl rfl (ru hnt rfl rfl rfl ?_)))))))))
        refine ru hnt rfl rfl rfl (rn hnt rfl rfl rfl g12 (qo hnt rfl (s_pick_t rfl g12 rfl ?_)))
        refine r_eq (s := 85) (y := pB ((((((((!(inS (usesS r.fn) 97)) && (!decide (r.at_ = 0))) || ((!(inS (usesS r.fn) 99)) && (!decide (r.count = 0)))) || ((!(inS (usesS r.fn) 119)) && (!decide (r.wAt = 0)))) || ((!(inS (usesS r.fn) 115)) && (!decide (r.sub = 0)))) || ((!(inS (usesS r.fn) 98)) && (decide (0 < ((r.bits.length : Nat) : Int))))) || ((!(inS (usesS r.fn) 118)) && (decide (0 < ((r.vals.length : Nat) : Int))))) || ((!(inS (usesS r.fn) 109)) && ((!decide (r.and_ = 0)) || (!decide (r.or_ = 0)))))) rfl (mix_ot _ g12) ?_
        exact r_mid ⟨⟨rfl,rfl,trivial⟩,rfl,rfl⟩
      ·refine re (w_if rfl (fun c2 => ?_) (fun c2 => ?_))
       ·have c2_ := c2
        try simp only [sB] at c2
        exact sr (ae hnt rfl rfl (w_le (s := 2) (y := pI (rightR r)) rfl (le_of_eq (congrArg pI (show 12 = (rightR r) by exact (rightR_2 c1_ c2_).symm))) (w_ret (q_then_ret fp))))
       have c2_ := c2
       try simp only [sB] at c2
       refine w_skip (q_then (w_seq (sr (xp hnt 2 [.o 2] [] [(87,pI r.at_)] (qo hnt rfl (s_callF rfl rfl rfl (w_burgageref3_word r.at_) rfl ?_))))))
       refine xp hnt 24 [.o 2,.b 4 [.o 2,.c (pB (wordOk r.count)),.o 1],.o 1,.b 4 [.o 2,.c (pB (wordOk r.wAt)),.o 1],.o 1,.b 4 [.o 2,.c (pB (wordOk r.sub)),.o 1],.o 1,.b 3 [.o 1,.c (pB (listsR r)),.o 1]] [(!(wordOk r.at_)) = false → AllP [T Try.prog 85 [pI r.count] 0 [] (Ret (pB (wordOk r.count)) 0 [])],((!(wordOk r.at_)) || (!(wordOk r.count))) = false → AllP [T Try.prog 85 [pI r.wAt] 0 [] (Ret (pB (wordOk r.wAt)) 0 [])],(((!(wordOk r.at_)) || (!(wordOk r.count))) || (!(wordOk r.wAt))) = false → AllP [T Try.prog 85 [pI r.sub] 0 [] (Ret (pB (wordOk r.sub)) 0 [])],((((!(wordOk r.at_)) || (!(wordOk r.count))) || (!(wordOk r.wAt))) || (!(wordOk r.sub))) = false → AllP [T Try.prog 93 [PV.f (eRequest r)] 0 [] (Ret (pB (listsR r)) 0 [])]] [(112,pB (((((!(wordOk r.at_)) || (!(wordOk r.count))) || (!(wordOk r.wAt))) || (!(wordOk r.sub))) || (!(listsR r))))] ?_ (hc := ⟨by intro hq; (try simp only [sB] at hq); exact ⟨(w_burgageref3_word r.count),trivial⟩,by intro hq; (try simp only [sB] at hq); exact ⟨(w_burgageref3_word r.wAt),trivial⟩,by intro hq; (try simp only [sB] at hq); exact ⟨(w_burgageref3_word r.sub),trivial⟩,by intro hq; (try simp only [sB] at hq); exact ⟨(w_burgageref3_lists r (by omega) (by omega)),trivial⟩,trivial⟩)
       refine re (w_if rfl (fun c3 => ?_) (fun c3 => ?_))
       ·have c3_ := c3
        try simp only [sB] at c3
        exact sr (ae hnt rfl rfl (w_le (s := 2) (y := pI (rightR r)) rfl (le_of_eq (congrArg pI (show 12 = (rightR r) by exact (rightR_3 c1_ c2_ c3_).symm))) (w_ret (q_then_ret fp))))
       have c3_ := c3
       try simp only [sB] at c3
       exact w_skip (q_then (sr (ae hnt rfl rfl (w_le (s := 2) (y := pI (rightR r)) rfl (le_of_eq (congrArg pI (show 0 = (rightR r) by exact (rightR_4 c1_ c2_ c3_).symm))) (w_ret fp)))))
def tNext (L : List Int) (a : Nat) (n : Int) : Int := if L.length ≤ a ∨ n < 1 then 0 else (within (L.getD a 0) 0 1073741824).tmod n
def tStep (L : List Int) (a : Nat) (n : Int) : Nat := if L.length ≤ a ∨ n < 1 then a else a + 1
theorem tNext_lt (L : List Int) (a : Nat) {n : Int} (h : 1 ≤ n) : 0 ≤ tNext L a n ∧ tNext L a n < n := by
  unfold tNext
  split
  · omega
  · have := within_between (L.getD a 0) (lo := 0) (hi := 1073741824) (by decide)
    exact ⟨Int.tmod_nonneg _ this.1,Int.tmod_lt_of_pos _ (by omega)⟩
def tRow {α : Type} (f : Int → α) (n : Int) (L : List Int) (a : Nat) : Nat → List α × Nat
  | 0 => ([],a)
  | k + 1 => ((tRow f n L a k).1 ++ [f (tNext L (tRow f n L a k).2 n)],tStep L (tRow f n L a k).2 n)
theorem tRow_length {α : Type} (f : Int → α) (n : Int) (L : List Int) (a : Nat) : ∀ k,(tRow f n L a k).1.length = k
  | 0 => rfl
  | k + 1 => by simp [tRow,tRow_length f n L a k]
def fnsL : List Int := [1,2,3,4,5,6,8,15,16,17,22,23]
def isOne (n : Int) : Bool := decide (n = 1)
section
variable {L : List Int}{f w : Int}{a : Nat}
end
theorem fns_has {i : Nat}{f : Int} (h : fnsL[i]? = some f) : hasF f = true := by
  have hz := List.mem_of_getElem? h
  simp only [fnsL,List.mem_cons,List.not_mem_nil,or_false] at hz
  unfold hasF
  exact decide_eq_true (by omega)
def bitsN (q : TRequest) : Int := if q.fn = 5 then 1 else if q.fn = 15 then q.count else 0
def valsN (q : TRequest) : Int := if q.fn = 6 ∨ q.fn = 8 then 1 else if q.fn = 16 then q.count else if q.fn = 23 then ((q.vals.length : Nat) : Int) else 0
def fieldsP (q : TRequest) : Bool := decide (((q.fn ≠ 8 ∧ q.fn ≠ 17) ∨ q.at_ = 0) ∧ (((1 ≤ q.fn ∧ q.fn ≤ 4) ∨ q.fn = 15 ∨ q.fn = 16 ∨ q.fn = 23) ∨ q.count = 0) ∧ (q.fn = 23 ∨ q.wAt = 0) ∧ (q.fn = 8 ∨ q.sub = 0) ∧ (q.fn = 22 ∨ (q.and_.toNat = 0 ∧ q.or_.toNat = 0)))
def restP (q : TRequest) : Bool := ((((!(fieldsP q)) || (!(wordOk q.at_))) || (!(wordOk q.wAt))) || (!(wordOk q.sub))) || (!(wordOk q.count))
theorem shape_P {q : TRequest} (hf : hasF q.fn = true) : ShapeR q ↔ restP q = false ∧ ((q.bits.length : Nat) : Int) = bitsN q ∧ ((q.vals.length : Nat) : Int) = valsN q ∧ q.bits.length ≤ 2040 ∧ q.vals.length ≤ 127 := by
  have hc := hasF_of hf
  unfold restP fieldsP wordOk bitsN valsN
  simp only [Bool.or_eq_false_iff,Bool.not_eq_false',decide_eq_true_eq]
  constructor
  · rintro ⟨wa,wc,ww,ws,za,zc,zw,zs,zm,hb,hv⟩
    refine ⟨⟨⟨⟨⟨⟨by omega,by omega,by omega,by omega,by omega⟩,wa⟩,ww⟩,ws⟩,wc⟩, ?_, ?_, ?_, ?_⟩
    · repeat' split at hb
      all_goals (repeat' split) <;> omega
    · repeat' split at hv
      all_goals (repeat' split) <;> omega
    · repeat' split at hb
      all_goals omega
    · repeat' split at hv
      all_goals omega
  · rintro ⟨⟨⟨⟨⟨⟨a1,a2,a3,a4,a5⟩,wa⟩,ww⟩,ws⟩,wc⟩,hb,hv,hb2,hv2⟩
    refine ⟨wa,wc,ww,ws,by omega,by omega,by omega,by omega,by omega, ?_, ?_⟩
    · repeat' split at hb
      all_goals (repeat' split) <;> omega
    · repeat' split at hv
      all_goals (repeat' split) <;> omega
theorem right_P {q : TRequest} (hf : hasF q.fn = true) (h1 : restP q = false) (h2 : ((q.bits.length : Nat) : Int) = bitsN q) (h3 : ((q.vals.length : Nat) : Int) = valsN q) (h4 : q.bits.length ≤ 2040) (h5 : q.vals.length ≤ 127) : rightR q = 0 :=
  (shapeR_iff hf).2 ((shape_P hf).2 ⟨h1,h2,h3,h4,h5⟩)
theorem wrong_P {q : TRequest} (hf : hasF q.fn = true) (h : ¬ (restP q = false ∧ ((q.bits.length : Nat) : Int) = bitsN q ∧ ((q.vals.length : Nat) : Int) = valsN q ∧ q.bits.length ≤ 2040 ∧ q.vals.length ≤ 127)) : rightR q = 12 :=
  rightR_form hf fun hs => h ((shape_P hf).1 hs)
theorem w_pdu_within (n : Int)  :
    T Try.prog 64 [pI n] 0 [] (Ret (pB (wordOk n)) 0 []) := by
 refine t_fun tabOk (n := 9) (rs := [.tmp 2]) Try.func64 rfl rfl rfl rfl (nb rfl) ?_
 intro c hnt hk
 refine sr (ae hnt rfl rfl (sr (xa hnt 7 [.o 3,.b 2 [.o 2],.o 1] [] [(2,pB ((decide (0 ≤ n)) && (decide (n ≤ 65535))))] 0 [] (re (w_le (s := 2) (y := pB (wordOk n)) rfl (le_of_eq (congrArg pB (show ((decide (0 ≤ n)) && (decide (n ≤ 65535))) = (wordOk n) by unfold wordOk; apply Bool.eq_iff_iff.2; simp only [Bool.and_eq_true,Bool.or_eq_true,Bool.not_eq_true',decide_eq_true_eq,decide_eq_false_iff_not,u16z]; try omega))) ?_)))))
 exact w_ret fp
theorem w_reply_within (n : Int)  :
    T Try.prog 70 [pI n] 0 [] (Ret (pB (wordOk n)) 0 []) := by
 refine t_fun tabOk (n := 9) (rs := [.tmp 2]) Try.func70 rfl rfl rfl rfl (nb rfl) ?_
 intro c hnt hk
 refine sr (ae hnt rfl rfl (sr (xa hnt 7 [.o 3,.b 2 [.o 2],.o 1] [] [(2,pB ((decide (0 ≤ n)) && (decide (n ≤ 65535))))] 0 [] (re (w_le (s := 2) (y := pB (wordOk n)) rfl (le_of_eq (congrArg pB (show ((decide (0 ≤ n)) && (decide (n ≤ 65535))) = (wordOk n) by unfold wordOk; apply Bool.eq_iff_iff.2; simp only [Bool.and_eq_true,Bool.or_eq_true,Bool.not_eq_true',decide_eq_true_eq,decide_eq_false_iff_not,u16z]; try omega))) ?_)))))
 exact w_ret fp
theorem w_pdu_function (n : Int)  :
    T Try.prog 62 [pI n] 0 [] (Ret (pB (hasF n)) 0 []) := by
 refine t_fun tabOk (n := 17) (rs := [.tmp 2]) Try.func62 rfl rfl rfl rfl (nb rfl) ?_
 intro c hnt hk
 refine sr (ae hnt rfl rfl (w_seq (sr (qm hnt rfl rfl (re (w_block (w_seq (sr ?_))))))))
 refine xp hnt 2 [.o 2] [] [(4,pB (decide (n = 1)))] (re (w_if rfl (fun c1 => ?_) (fun c1 => ?_)))
 ·have c1_ := c1
  try simp only [sB] at c1
  refine w_skip (q_then (w_if rfl (fun _ => ?_) (fun e => absurd (e.symm.trans c1_) (by decide))))
  exact sr (ae hnt rfl rfl (w_le (s := 2) (y := pB (hasF n)) rfl (le_of_eq (congrArg pB (show true = (hasF n) by exact (decide_eq_true (by omega)).symm))) (w_ret (q_block_ret (q_then_ret fp)))))
 have c1_ := c1
 try simp only [sB] at c1
 refine sr (qo hnt rfl (s_eql rfl rfl ?_))
 refine ae hnt rfl rfl (w_if rfl (fun c2 => ?_) (fun c2 => ?_))
 ·have c2_ := c2
  try simp only [sB] at c2
  refine w_skip (q_then (w_if rfl (fun _ => ?_) (fun e => absurd (e.symm.trans c2_) (by decide))))
  exact sr (ae hnt rfl rfl (w_le (s := 2) (y := pB (hasF n)) rfl (le_of_eq (congrArg pB (show true = (hasF n) by exact (decide_eq_true (by omega)).symm))) (w_ret (q_block_ret (q_then_ret fp)))))
 have c2_ := c2
 try simp only [sB] at c2
 refine sr (qo hnt rfl (s_eql rfl rfl ?_))
 refine ae hnt rfl rfl (w_if rfl (fun c3 => ?_) (fun c3 => ?_))
 ·have c3_ := c3
  try simp only [sB] at c3
  refine w_skip (q_then (w_if rfl (fun _ => ?_) (fun e => absurd (e.symm.trans c3_) (by decide))))
  exact sr (ae hnt rfl rfl (w_le (s := 2) (y := pB (hasF n)) rfl (le_of_eq (congrArg pB (show true = (hasF n) by exact (decide_eq_true (by omega)).symm))) (w_ret (q_block_ret (q_then_ret fp)))))
 have c3_ := c3
 try simp only [sB] at c3
 refine sr (qo hnt rfl (s_eql rfl rfl ?_))
 refine ae hnt rfl rfl (w_if rfl (fun c4 => ?_) (fun c4 => ?_))
 ·have c4_ := c4
  try simp only [sB] at c4
  refine w_skip (q_then (w_if rfl (fun _ => ?_) (fun e => absurd (e.symm.trans c4_) (by decide))))
  exact sr (ae hnt rfl rfl (w_le (s := 2) (y := pB (hasF n)) rfl (le_of_eq (congrArg pB (show true = (hasF n) by exact (decide_eq_true (by omega)).symm))) (w_ret (q_block_ret (q_then_ret fp)))))
 have c4_ := c4
 try simp only [sB] at c4
 refine sr (qo hnt rfl (s_eql rfl rfl ?_))
 refine ae hnt rfl rfl (w_if rfl (fun c5 => ?_) (fun c5 => ?_))
 ·have c5_ := c5
  try simp only [sB] at c5
  refine w_skip (q_then (w_if rfl (fun _ => ?_) (fun e => absurd (e.symm.trans c5_) (by decide))))
  exact sr (ae hnt rfl rfl (w_le (s := 2) (y := pB (hasF n)) rfl (le_of_eq (congrArg pB (show true = (hasF n) by exact (decide_eq_true (by omega)).symm))) (w_ret (q_block_ret (q_then_ret fp)))))
 have c5_ := c5
 try simp only [sB] at c5
 refine sr (qo hnt rfl (s_eql rfl rfl ?_))
 refine ae hnt rfl rfl (w_if rfl (fun c6 => ?_) (fun c6 => ?_))
 ·have c6_ := c6
  try simp only [sB] at c6
  refine w_skip (q_then (w_if rfl (fun _ => ?_) (fun e => absurd (e.symm.trans c6_) (by decide))))
  exact sr (ae hnt rfl rfl (w_le (s := 2) (y := pB (hasF n)) rfl (le_of_eq (congrArg pB (show true = (hasF n) by exact (decide_eq_true (by omega)).symm))) (w_ret (q_block_ret (q_then_ret fp)))))
 have c6_ := c6
 try simp only [sB] at c6
 refine sr (qo hnt rfl (s_eql rfl rfl ?_))
 refine ae hnt rfl rfl (w_if rfl (fun c7 => ?_) (fun c7 => ?_))
 ·have c7_ := c7
  try simp only [sB] at c7
  refine w_skip (q_then (w_if rfl (fun _ => ?_) (fun e => absurd (e.symm.trans c7_) (by decide))))
  exact sr (ae hnt rfl rfl (w_le (s := 2) (y := pB (hasF n)) rfl (le_of_eq (congrArg pB (show true = (hasF n) by exact (decide_eq_true (by omega)).symm))) (w_ret (q_block_ret (q_then_ret fp)))))
 have c7_ := c7
 try simp only [sB] at c7
 refine sr (qo hnt rfl (s_eql rfl rfl ?_))
 refine ae hnt rfl rfl (w_if rfl (fun c8 => ?_) (fun c8 => ?_))
 ·have c8_ := c8
  try simp only [sB] at c8
  refine w_skip (q_then (w_if rfl (fun _ => ?_) (fun e => absurd (e.symm.trans c8_) (by decide))))
  exact sr (ae hnt rfl rfl (w_le (s := 2) (y := pB (hasF n)) rfl (le_of_eq (congrArg pB (show true = (hasF n) by exact (decide_eq_true (by omega)).symm))) (w_ret (q_block_ret (q_then_ret fp)))))
 have c8_ := c8
 try simp only [sB] at c8
 refine sr (qo hnt rfl (s_eql rfl rfl ?_))
 refine ae hnt rfl rfl (w_if rfl (fun c9 => ?_) (fun c9 => ?_))
 ·have c9_ := c9
  try simp only [sB] at c9
  refine w_skip (q_then (w_if rfl (fun _ => ?_) (fun e => absurd (e.symm.trans c9_) (by decide))))
  exact sr (ae hnt rfl rfl (w_le (s := 2) (y := pB (hasF n)) rfl (le_of_eq (congrArg pB (show true = (hasF n) by exact (decide_eq_true (by omega)).symm))) (w_ret (q_block_ret (q_then_ret fp)))))
 have c9_ := c9
 try simp only [sB] at c9
 refine sr (qo hnt rfl (s_eql rfl rfl ?_))
 refine ae hnt rfl rfl (w_if rfl (fun c10 => ?_) (fun c10 => ?_))
 ·have c10_ := c10
  try simp only [sB] at c10
  refine w_skip (q_then (w_if rfl (fun _ => ?_) (fun e => absurd (e.symm.trans c10_) (by decide))))
  exact sr (ae hnt rfl rfl (w_le (s := 2) (y := pB (hasF n)) rfl (le_of_eq (congrArg pB (show true = (hasF n) by exact (decide_eq_true (by omega)).symm))) (w_ret (q_block_ret (q_then_ret fp)))))
 have c10_ := c10
 try simp only [sB] at c10
 refine sr (qo hnt rfl (s_eql rfl rfl ?_))
 refine ae hnt rfl rfl (w_if rfl (fun c11 => ?_) (fun c11 => ?_))
 ·have c11_ := c11
  try simp only [sB] at c11
  refine w_skip (q_then (w_if rfl (fun _ => ?_) (fun e => absurd (e.symm.trans c11_) (by decide))))
  exact sr (ae hnt rfl rfl (w_le (s := 2) (y := pB (hasF n)) rfl (le_of_eq (congrArg pB (show true = (hasF n) by exact (decide_eq_true (by omega)).symm))) (w_ret (q_block_ret (q_then_ret fp)))))
 have c11_ := c11
 try simp only [sB] at c11
 refine w_R (qo hnt rfl (s_eql rfl rfl ?_))
 refine ae hnt rfl rfl (w_if rfl (fun c12 => ?_) (fun c12 => ?_))
 ·try simp only [sB] at c12
  exact sr (ae hnt rfl rfl (w_le (s := 2) (y := pB (hasF n)) rfl (le_of_eq (congrArg pB (show true = (hasF n) by exact (decide_eq_true (by omega)).symm))) (w_ret (q_block_ret (q_then_ret fp)))))
 try simp only [sB] at c12
 exact w_skip (q_block (q_then (sr (ae hnt rfl rfl (w_le (s := 2) (y := pB (hasF n)) rfl (le_of_eq (congrArg pB (show false = (hasF n) by exact (decide_eq_false (by omega)).symm))) (w_ret fp))))))
theorem w_pdu_reads (n : Int)  :
    T Try.prog 82 [pI n] 0 [] (Ret (pB (decide (1 ≤ n ∧ n ≤ 4))) 0 []) := by
 refine t_fun tabOk (n := 9) (rs := [.tmp 2]) Try.func82 rfl rfl rfl rfl (nb rfl) ?_
 intro c hnt hk
 refine sr (ae hnt rfl rfl (sr (xa hnt 7 [.o 3,.b 2 [.o 2],.o 1] [] [(2,pB ((decide (1 ≤ n)) && (decide (n ≤ 4))))] 0 [] (re (w_le (s := 2) (y := pB (decide (1 ≤ n ∧ n ≤ 4))) rfl (le_of_eq (congrArg pB (show ((decide (1 ≤ n)) && (decide (n ≤ 4))) = (decide (1 ≤ n ∧ n ≤ 4)) by apply Bool.eq_iff_iff.2; simp only [Bool.and_eq_true,Bool.or_eq_true,Bool.not_eq_true',decide_eq_true_eq,decide_eq_false_iff_not,u16z]; try omega))) ?_)))))
 exact w_ret fp
theorem w_pdu_bits (r : TRequest) (hb : r.bits.length ≤ 140737488351232) (hv : r.vals.length ≤ 140737488351232) :
    T Try.prog 65 [PV.f (eRequest r)] 0 [] (Ret (pI (bitsN r)) 0 []) := by
 refine t_fun tabOk (n := 11) (rs := [.tmp 2]) Try.func65 rfl rfl rfl rfl (nb rfl) ?_
 intro c hnt hk
 refine sr (qo hnt rfl (s_box rfl rfl ?_))
 refine qa hnt rfl rfl (r_set [(1,PV.ptr 0 0)] [(0,.obj (cRequest r))] 1 ⟨rfl,trivial⟩ rfl rfl (re (w_seq (sr (xp hnt 2 [.o 2] [] [(4,pI r.fn)] ?_)))))
 refine re (w_block (sr (xp hnt 2 [.o 2] [] [(5,pB (decide (r.fn = 5)))] (re (w_if rfl (fun c1 => ?_) (fun c1 => ?_))))))
 ·try simp only [sB] at c1
  exact sr (ae hnt rfl rfl (w_le (s := 2) (y := pI (bitsN r)) rfl (le_of_eq (congrArg pI (show 1 = (bitsN r) by unfold bitsN; (repeat' split) <;> rfl))) (w_ret (q_block_ret (q_then_ret fp)))))
 try simp only [sB] at c1
 refine sr (xp hnt 2 [.o 2] [] [(7,pB (decide (r.fn = 15)))] (re (w_if rfl (fun c2 => ?_) (fun c2 => ?_))))
 ·try simp only [sB] at c2
  refine sr (xp hnt 3 [.o 3] [] [(2,pI r.count)] (re (w_le (s := 2) (y := pI (bitsN r)) rfl (le_of_eq (congrArg pI (show r.count = (bitsN r) by unfold bitsN; (repeat' split) <;> first|rfl|omega))) (w_ret (q_block_ret ?_)))))
  exact q_then_ret fp
 try simp only [sB] at c2
 exact w_skip (q_block (q_then (sr (ae hnt rfl rfl (w_le (s := 2) (y := pI (bitsN r)) rfl (le_of_eq (congrArg pI (show 0 = (bitsN r) by unfold bitsN; (repeat' split) <;> first|rfl|omega))) (w_ret fp))))))
theorem w_pdu_vals (r : TRequest) (hb : r.bits.length ≤ 140737488351232) (hv : r.vals.length ≤ 140737488351232) :
    T Try.prog 66 [PV.f (eRequest r)] 0 [] (Ret (pI (valsN r)) 0 []) := by
 refine t_fun tabOk (n := 17) (rs := [.tmp 2]) Try.func66 rfl rfl rfl rfl (nb rfl) ?_
 intro c hnt hk
 refine sr (qo hnt rfl (s_box rfl rfl ?_))
 refine qa hnt rfl rfl (r_set [(1,PV.ptr 0 0)] [(0,.obj (cRequest r))] 1 ⟨rfl,trivial⟩ rfl rfl (re (w_seq (sr (xp hnt 2 [.o 2] [] [(4,pI r.fn)] ?_)))))
 refine re (w_block (w_seq (sr (xp hnt 2 [.o 2] [] [(5,pB (decide (r.fn = 6)))] (re ?_)))))
 refine w_if rfl (fun c1 => ?_) (fun c1 => ?_)
 ·have c1_ := c1
  try simp only [sB] at c1
  refine w_skip (q_then (w_if rfl (fun _ => ?_) (fun e => absurd (e.symm.trans c1_) (by decide))))
  exact sr (ae hnt rfl rfl (w_le (s := 2) (y := pI (valsN r)) rfl (le_of_eq (congrArg pI (show 1 = (valsN r) by unfold valsN; (repeat' split) <;> first|rfl|omega))) (w_ret (q_block_ret (q_then_ret fp)))))
 have c1_ := c1
 try simp only [sB] at c1
 refine w_R (qo hnt rfl (s_eql rfl rfl ?_))
 refine ae hnt rfl rfl (w_if rfl (fun c2 => ?_) (fun c2 => ?_))
 ·try simp only [sB] at c2
  exact sr (ae hnt rfl rfl (w_le (s := 2) (y := pI (valsN r)) rfl (le_of_eq (congrArg pI (show 1 = (valsN r) by unfold valsN; (repeat' split) <;> first|rfl|omega))) (w_ret (q_block_ret (q_then_ret fp)))))
 try simp only [sB] at c2
 refine sr (xp hnt 2 [.o 2] [] [(8,pB (decide (r.fn = 16)))] (re (w_if rfl (fun c3 => ?_) (fun c3 => ?_))))
 ·try simp only [sB] at c3
  refine sr (xp hnt 3 [.o 3] [] [(2,pI r.count)] (re (w_le (s := 2) (y := pI (valsN r)) rfl (le_of_eq (congrArg pI (show r.count = (valsN r) by unfold valsN; (repeat' split) <;> first|rfl|omega))) (w_ret (q_block_ret ?_)))))
  exact q_then_ret fp
 try simp only [sB] at c3
 refine sr (qo hnt rfl (s_eql rfl rfl ?_))
 refine ae hnt rfl rfl (w_if rfl (fun c4 => ?_) (fun c4 => ?_))
 ·try simp only [sB] at c4
  refine sr (xp hnt 4 [.o 2,.c (pN r.vals.length),.o 1] [lenC enc16 r.vals] [(2,pN r.vals.length)] ?_ (hc := ⟨lenC_ok _ _,trivial⟩))
  exact re (w_le (s := 2) (y := pI (valsN r)) rfl (le_of_eq (congrArg pI (show ((r.vals.length : Nat) : Int) = (valsN r) by unfold valsN; (repeat' split) <;> first|rfl|omega))) (w_ret (q_block_ret (q_then_ret fp))))
 try simp only [sB] at c4
 exact w_skip (q_block (q_then (sr (ae hnt rfl rfl (w_le (s := 2) (y := pI (valsN r)) rfl (le_of_eq (congrArg pI (show 0 = (valsN r) by unfold valsN; (repeat' split) <;> first|rfl|omega))) (w_ret fp))))))
theorem w_pdu_fields (r : TRequest) (hb : r.bits.length ≤ 140737488351232) (hv : r.vals.length ≤ 140737488351232) :
    T Try.prog 63 [PV.f (eRequest r)] 0 [] (Ret (pB (fieldsP r)) 0 []) := by
 refine t_fun tabOk (n := 82) (rs := [.tmp 2]) Try.func63 rfl rfl rfl rfl (nb rfl) ?_
 intro c hnt hk
 refine sr (qo hnt rfl (s_box rfl rfl ?_))
 refine qa hnt rfl rfl (r_set [(1,PV.ptr 0 0)] [(0,.obj (cRequest r))] 1 ⟨rfl,trivial⟩ rfl rfl (re (sr (xp hnt 9 [.o 4,.b 3 [.o 3],.o 1] [] [(3,pB ((!decide (r.fn = 8)) && (!decide (r.fn = 17))))] (re ?_)))))
 refine sr (xp hnt 2 [.o 2] [] [(15,pI r.fn)] (qo hnt rfl (s_callF rfl rfl rfl (w_pdu_reads r.fn) rfl ?_)))
 refine xp hnt 16 [.o 1,.b 3 [.o 3],.o 1,.b 3 [.o 3],.o 1,.b 3 [.o 3],.o 1] [] [(4,pB ((((decide (1 ≤ r.fn ∧ r.fn ≤ 4)) || (decide (r.fn = 15))) || (decide (r.fn = 16))) || (decide (r.fn = 23))))] (re (sr (xp hnt 4 [.o 4] [] [(5,pB (decide (r.fn = 22)))] (re (sr ?_)))))
 refine xp hnt 7 [.o 2,.b 3 [.o 3],.o 1] [] [(41,pB (((!decide (r.fn = 8)) && (!decide (r.fn = 17))) || (decide (r.at_ = 0))))] (r_cut0 7 [(1,PV.ptr 0 0),(5,pB (decide (r.fn = 22))),(48,pB ((((!decide (r.fn = 8)) && (!decide (r.fn = 17))) || (decide (r.at_ = 0))) && (((((decide (1 ≤ r.fn ∧ r.fn ≤ 4)) || (decide (r.fn = 15))) || (decide (r.fn = 16))) || (decide (r.fn = 23))) || (decide (r.count = 0)))))] ?_ ?_)
 ·refine r_if tabOk hnt rfl rfl rfl (fun g6 => ?_) (fun g6 => ?_)
  ·have g6' := g6
   try simp only [sB] at g6'
   refine qm hnt rfl rfl (ry hnt rfl rfl rfl g6 (qm hnt rfl rfl (r_cut0 4 [(1,PV.ptr 0 0),(5,pB (decide (r.fn = 22))),(41,pB (((!decide (r.fn = 8)) && (!decide (r.fn = 17))) || (decide (r.at_ = 0)))),(47,pB (((((decide (1 ≤ r.fn ∧ r.fn ≤ 4)) || (decide (r.fn = 15))) || (decide (r.fn = 16))) || (decide (r.fn = 23))) || (decide (r.count = 0))))] ?_ ?_)))
   ·refine r_if tabOk hnt rfl rfl rfl (fun g7 => ?_) (fun g7 => ?_)
    ·have g7' := g7
     try simp only [sB] at g7'
     refine qo hnt rfl (s_fa_ptr tab_37 rfl rfl tab_3 (by decide) rfl ?_)
     refine ry hnt rfl rfl rfl g7 (qo hnt rfl (s_load_ptr1 tab_3 rfl rfl rfl rfl rfl ?_))
     refine ry hnt rfl rfl rfl g7 (qo hnt rfl (s_eql rfl rfl ?_))
     refine ry hnt rfl rfl rfl g6 (qo hnt rfl (s_pick_f rfl g7 rfl ?_))
     refine r_eq (s := 47) (y := pB (((((decide (1 ≤ r.fn ∧ r.fn ≤ 4)) || (decide (r.fn = 15))) || (decide (r.fn = 16))) || (decide (r.fn = 23))) || (decide (r.count = 0)))) rfl (mix_of g7) ?_
     exact r_mid ⟨⟨rfl,rfl,rfl,rfl,trivial⟩,rfl,rfl⟩
    ·have g7' := g7
     try simp only [sB] at g7'
     refine rn hnt rfl rfl rfl g7 (rn hnt rfl rfl rfl g7 (ry hnt rfl rfl rfl g6 (qo hnt rfl (s_pick_t rfl g7 rfl ?_))))
     refine r_eq (s := 47) (y := pB (((((decide (1 ≤ r.fn ∧ r.fn ≤ 4)) || (decide (r.fn = 15))) || (decide (r.fn = 16))) || (decide (r.fn = 23))) || (decide (r.count = 0)))) rfl (mix_ot _ g7) ?_
     exact r_mid ⟨⟨rfl,rfl,rfl,rfl,trivial⟩,rfl,rfl⟩
   ·refine qo hnt rfl (s_pick_t rfl g6 rfl ?_)
    refine r_eq (s := 48) (y := pB ((((!decide (r.fn = 8)) && (!decide (r.fn = 17))) || (decide (r.at_ = 0))) && (((((decide (1 ≤ r.fn ∧ r.fn ≤ 4)) || (decide (r.fn = 15))) || (decide (r.fn = 16))) || (decide (r.fn = 23))) || (decide (r.count = 0))))) rfl (mix_at g6) ?_
    exact r_mid ⟨⟨rfl,rfl,rfl,trivial⟩,rfl,rfl⟩
  ·have g6' := g6
   try simp only [sB] at g6'
   refine rn hnt rfl rfl rfl g6 (ru hnt rfl rfl rfl (ru hnt rfl rfl rfl (ru hnt rfl rfl rfl (rn hnt rfl rfl rfl g6 (qo hnt rfl (s_pick_f rfl g6 rfl ?_))))))
   refine r_eq (s := 48) (y := pB ((((!decide (r.fn = 8)) && (!decide (r.fn = 17))) || (decide (r.at_ = 0))) && (((((decide (1 ≤ r.fn ∧ r.fn ≤ 4)) || (decide (r.fn = 15))) || (decide (r.fn = 16))) || (decide (r.fn = 23))) || (decide (r.count = 0))))) rfl (mix_af _ g6) ?_
   exact r_mid ⟨⟨rfl,rfl,rfl,trivial⟩,rfl,rfl⟩
 ·refine qm hnt rfl rfl (r_cut0 9 [(1,PV.ptr 0 0),(5,pB (decide (r.fn = 22))),(58,pB (((((!decide (r.fn = 8)) && (!decide (r.fn = 17))) || (decide (r.at_ = 0))) && (((((decide (1 ≤ r.fn ∧ r.fn ≤ 4)) || (decide (r.fn = 15))) || (decide (r.fn = 16))) || (decide (r.fn = 23))) || (decide (r.count = 0)))) && ((decide (r.fn = 23)) || (decide (r.wAt = 0)))))] ?_ ?_)
  ·refine r_if tabOk hnt rfl rfl rfl (fun g8 => ?_) (fun g8 => ?_)
   ·have g8' := g8
    try simp only [sB] at g8'
    refine qo hnt rfl (s_fa_ptr tab_37 rfl rfl tab_3 (by decide) rfl ?_)
    refine ry hnt rfl rfl rfl g8 (qo hnt rfl (s_load_ptr1 tab_3 rfl rfl rfl rfl rfl ?_))
    refine ry hnt rfl rfl rfl g8 (qo hnt rfl (s_eql rfl rfl ?_))
    refine ry hnt rfl rfl rfl g8 (qm hnt rfl rfl (r_cut0 4 [(1,PV.ptr 0 0),(5,pB (decide (r.fn = 22))),(49,pB ((((!decide (r.fn = 8)) && (!decide (r.fn = 17))) || (decide (r.at_ = 0))) && (((((decide (1 ≤ r.fn ∧ r.fn ≤ 4)) || (decide (r.fn = 15))) || (decide (r.fn = 16))) || (decide (r.fn = 23))) || (decide (r.count = 0))))),(57,pB ((decide (r.fn = 23)) || (decide (r.wAt = 0))))] ?_ ?_))
    ·refine r_if tabOk hnt rfl rfl rfl (fun g9 => ?_) (fun g9 => ?_)
     ·have g9' := g9
      try simp only [sB] at g9'
      refine qo hnt rfl (s_fa_ptr tab_37 rfl rfl tab_3 (by decide) rfl ?_)
      refine ry hnt rfl rfl rfl g9 (qo hnt rfl (s_load_ptr1 tab_3 rfl rfl rfl rfl rfl ?_))
      refine ry hnt rfl rfl rfl g9 (qo hnt rfl (s_eql rfl rfl ?_))
      refine ry hnt rfl rfl rfl g8 (qo hnt rfl (s_pick_f rfl g9 rfl ?_))
      refine r_eq (s := 57) (y := pB ((decide (r.fn = 23)) || (decide (r.wAt = 0)))) rfl (mix_of g9) ?_
      exact r_mid ⟨⟨rfl,rfl,rfl,rfl,trivial⟩,rfl,rfl⟩
     ·have g9' := g9
      try simp only [sB] at g9'
      refine rn hnt rfl rfl rfl g9 (rn hnt rfl rfl rfl g9 (ry hnt rfl rfl rfl g8 (qo hnt rfl (s_pick_t rfl g9 rfl ?_))))
      refine r_eq (s := 57) (y := pB ((decide (r.fn = 23)) || (decide (r.wAt = 0)))) rfl (mix_ot _ g9) ?_
      exact r_mid ⟨⟨rfl,rfl,rfl,rfl,trivial⟩,rfl,rfl⟩
    ·refine qo hnt rfl (s_pick_t rfl g8 rfl ?_)
     refine r_eq (s := 58) (y := pB (((((!decide (r.fn = 8)) && (!decide (r.fn = 17))) || (decide (r.at_ = 0))) && (((((decide (1 ≤ r.fn ∧ r.fn ≤ 4)) || (decide (r.fn = 15))) || (decide (r.fn = 16))) || (decide (r.fn = 23))) || (decide (r.count = 0)))) && ((decide (r.fn = 23)) || (decide (r.wAt = 0))))) rfl (mix_at g8) ?_
     exact r_mid ⟨⟨rfl,rfl,rfl,trivial⟩,rfl,rfl⟩
   ·have g8' := g8
    try simp only [sB] at g8'
    refine rn hnt rfl rfl rfl g8 (rn hnt rfl rfl rfl g8 (rn hnt rfl rfl rfl g8 (ru hnt rfl rfl rfl (ru hnt rfl rfl rfl (ru hnt rfl rfl rfl (rn hnt rfl rfl rfl g8 (qo hnt rfl (s_pick_f rfl g8 rfl ?_))))))))
    refine r_eq (s := 58) (y := pB (((((!decide (r.fn = 8)) && (!decide (r.fn = 17))) || (decide (r.at_ = 0))) && (((((decide (1 ≤ r.fn ∧ r.fn ≤ 4)) || (decide (r.fn = 15))) || (decide (r.fn = 16))) || (decide (r.fn = 23))) || (decide (r.count = 0)))) && ((decide (r.fn = 23)) || (decide (r.wAt = 0))))) rfl (mix_af _ g8) ?_
    exact r_mid ⟨⟨rfl,rfl,rfl,trivial⟩,rfl,rfl⟩
  ·refine qm hnt rfl rfl (r_cut0 9 [(1,PV.ptr 0 0),(5,pB (decide (r.fn = 22))),(68,pB ((((((!decide (r.fn = 8)) && (!decide (r.fn = 17))) || (decide (r.at_ = 0))) && (((((decide (1 ≤ r.fn ∧ r.fn ≤ 4)) || (decide (r.fn = 15))) || (decide (r.fn = 16))) || (decide (r.fn = 23))) || (decide (r.count = 0)))) && ((decide (r.fn = 23)) || (decide (r.wAt = 0)))) && ((decide (r.fn = 8)) || (decide (r.sub = 0)))))] ?_ ?_)
   ·refine r_if tabOk hnt rfl rfl rfl (fun g10 => ?_) (fun g10 => ?_)
    ·have g10' := g10
     try simp only [sB] at g10'
     refine qo hnt rfl (s_fa_ptr tab_37 rfl rfl tab_3 (by decide) rfl ?_)
     refine ry hnt rfl rfl rfl g10 (qo hnt rfl (s_load_ptr1 tab_3 rfl rfl rfl rfl rfl ?_))
     refine ry hnt rfl rfl rfl g10 (qo hnt rfl (s_eql rfl rfl ?_))
     refine ry hnt rfl rfl rfl g10 (qm hnt rfl rfl (r_cut0 4 [(1,PV.ptr 0 0),(5,pB (decide (r.fn = 22))),(59,pB (((((!decide (r.fn = 8)) && (!decide (r.fn = 17))) || (decide (r.at_ = 0))) && (((((decide (1 ≤ r.fn ∧ r.fn ≤ 4)) || (decide (r.fn = 15))) || (decide (r.fn = 16))) || (decide (r.fn = 23))) || (decide (r.count = 0)))) && ((decide (r.fn = 23)) || (decide (r.wAt = 0))))),(67,pB ((decide (r.fn = 8)) || (decide (r.sub = 0))))] ?_ ?_))
     ·refine r_if tabOk hnt rfl rfl rfl (fun g11 => ?_) (fun g11 => ?_)
      ·have g11' := g11
       try simp only [sB] at g11'
       refine qo hnt rfl (s_fa_ptr tab_37 rfl rfl tab_3 (by decide) rfl ?_)
       refine ry hnt rfl rfl rfl g11 (qo hnt rfl (s_load_ptr1 tab_3 rfl rfl rfl rfl rfl ?_))
       refine ry hnt rfl rfl rfl g11 (qo hnt rfl (s_eql rfl rfl ?_))
       refine ry hnt rfl rfl rfl g10 (qo hnt rfl (s_pick_f rfl g11 rfl ?_))
       refine r_eq (s := 67) (y := pB ((decide (r.fn = 8)) || (decide (r.sub = 0)))) rfl (mix_of g11) ?_
       exact r_mid ⟨⟨rfl,rfl,rfl,rfl,trivial⟩,rfl,rfl⟩
      ·have g11' := g11
       try simp only [sB] at g11'
       refine rn hnt rfl rfl rfl g11 (rn hnt rfl rfl rfl g11 (ry hnt rfl rfl rfl g10 (qo hnt rfl (s_pick_t rfl g11 rfl ?_))))
       refine r_eq (s := 67) (y := pB ((decide (r.fn = 8)) || (decide (r.sub = 0)))) rfl (mix_ot _ g11) ?_
       exact r_mid ⟨⟨rfl,rfl,rfl,rfl,trivial⟩,rfl,rfl⟩
     ·refine qo hnt rfl (s_pick_t rfl g10 rfl ?_)
      refine r_eq (s := 68) (y := pB ((((((!decide (r.fn = 8)) && (!decide (r.fn = 17))) || (decide (r.at_ = 0))) && (((((decide (1 ≤ r.fn ∧ r.fn ≤ 4)) || (decide (r.fn = 15))) || (decide (r.fn = 16))) || (decide (r.fn = 23))) || (decide (r.count = 0)))) && ((decide (r.fn = 23)) || (decide (r.wAt = 0)))) && ((decide (r.fn = 8)) || (decide (r.sub = 0))))) rfl (mix_at g10) ?_
      exact r_mid ⟨⟨rfl,rfl,rfl,trivial⟩,rfl,rfl⟩
    ·have g10' := g10
     try simp only [sB] at g10'
     refine rn hnt rfl rfl rfl g10 (rn hnt rfl rfl rfl g10 (rn hnt rfl rfl rfl g10 (ru hnt rfl rfl rfl (ru hnt rfl rfl rfl (ru hnt rfl rfl rfl (rn hnt rfl rfl rfl g10 (qo hnt rfl (s_pick_f rfl g10 rfl ?_))))))))
     refine r_eq (s := 68) (y := pB ((((((!decide (r.fn = 8)) && (!decide (r.fn = 17))) || (decide (r.at_ = 0))) && (((((decide (1 ≤ r.fn ∧ r.fn ≤ 4)) || (decide (r.fn = 15))) || (decide (r.fn = 16))) || (decide (r.fn = 23))) || (decide (r.count = 0)))) && ((decide (r.fn = 23)) || (decide (r.wAt = 0)))) && ((decide (r.fn = 8)) || (decide (r.sub = 0))))) rfl (mix_af _ g10) ?_
     exact r_mid ⟨⟨rfl,rfl,rfl,trivial⟩,rfl,rfl⟩
   ·refine qm hnt rfl rfl (r_cut0 12 [(81,pB (((((((!decide (r.fn = 8)) && (!decide (r.fn = 17))) || (decide (r.at_ = 0))) && (((((decide (1 ≤ r.fn ∧ r.fn ≤ 4)) || (decide (r.fn = 15))) || (decide (r.fn = 16))) || (decide (r.fn = 23))) || (decide (r.count = 0)))) && ((decide (r.fn = 23)) || (decide (r.wAt = 0)))) && ((decide (r.fn = 8)) || (decide (r.sub = 0)))) && ((decide (r.fn = 22)) || ((decide (r.and_ = 0)) && (decide (r.or_ = 0))))))] ?_ ?_)
    ·refine r_if tabOk hnt rfl rfl rfl (fun g12 => ?_) (fun g12 => ?_)
     ·have g12' := g12
      try simp only [sB] at g12'
      refine qm hnt rfl rfl (ry hnt rfl rfl rfl g12 (qm hnt rfl rfl (r_cut0 9 [(69,pB ((((((!decide (r.fn = 8)) && (!decide (r.fn = 17))) || (decide (r.at_ = 0))) && (((((decide (1 ≤ r.fn ∧ r.fn ≤ 4)) || (decide (r.fn = 15))) || (decide (r.fn = 16))) || (decide (r.fn = 23))) || (decide (r.count = 0)))) && ((decide (r.fn = 23)) || (decide (r.wAt = 0)))) && ((decide (r.fn = 8)) || (decide (r.sub = 0))))),(80,pB ((decide (r.fn = 22)) || ((decide (r.and_ = 0)) && (decide (r.or_ = 0)))))] ?_ ?_)))
      ·refine r_if tabOk hnt rfl rfl rfl (fun g13 => ?_) (fun g13 => ?_)
       ·have g13' := g13
        try simp only [sB] at g13'
        refine qo hnt rfl (s_fa_ptr tab_37 rfl rfl tab_35 (by decide) rfl ?_)
        refine ry hnt rfl rfl rfl g13 (qo hnt rfl (s_load_ptr1 tab_35 rfl rfl rfl rfl rfl ?_))
        refine ry hnt rfl rfl rfl g13 (qo hnt rfl (s_eql16 (a := r.and_) (b := 0) rfl rfl ?_))
        refine ry hnt rfl rfl rfl g13 (qm hnt rfl rfl (r_cut0 4 [(69,pB ((((((!decide (r.fn = 8)) && (!decide (r.fn = 17))) || (decide (r.at_ = 0))) && (((((decide (1 ≤ r.fn ∧ r.fn ≤ 4)) || (decide (r.fn = 15))) || (decide (r.fn = 16))) || (decide (r.fn = 23))) || (decide (r.count = 0)))) && ((decide (r.fn = 23)) || (decide (r.wAt = 0)))) && ((decide (r.fn = 8)) || (decide (r.sub = 0))))),(71,pB (decide (r.fn = 22))),(79,pB ((decide (r.and_ = 0)) && (decide (r.or_ = 0))))] ?_ ?_))
        ·refine r_if tabOk hnt rfl rfl rfl (fun g14 => ?_) (fun g14 => ?_)
         ·have g14' := g14
          try simp only [sB] at g14'
          refine qo hnt rfl (s_fa_ptr tab_37 rfl rfl tab_35 (by decide) rfl ?_)
          refine ry hnt rfl rfl rfl g14 (qo hnt rfl (s_load_ptr1 tab_35 rfl rfl rfl rfl rfl ?_))
          refine ry hnt rfl rfl rfl g14 (qo hnt rfl (s_eql16 (a := r.or_) (b := 0) rfl rfl ?_))
          refine ry hnt rfl rfl rfl g13 (qo hnt rfl (s_pick_t rfl g14 rfl ?_))
          refine r_eq (s := 79) (y := pB ((decide (r.and_ = 0)) && (decide (r.or_ = 0)))) rfl (mix_at g14) ?_
          exact r_mid ⟨⟨rfl,rfl,rfl,trivial⟩,rfl,rfl⟩
         ·have g14' := g14
          try simp only [sB] at g14'
          refine rn hnt rfl rfl rfl g14 (rn hnt rfl rfl rfl g14 (ry hnt rfl rfl rfl g13 (qo hnt rfl (s_pick_f rfl g14 rfl ?_))))
          refine r_eq (s := 79) (y := pB ((decide (r.and_ = 0)) && (decide (r.or_ = 0)))) rfl (mix_af _ g14) ?_
          exact r_mid ⟨⟨rfl,rfl,rfl,trivial⟩,rfl,rfl⟩
        ·refine ry hnt rfl rfl rfl g12 (qo hnt rfl (s_pick_f rfl g13 rfl ?_))
         refine r_eq (s := 80) (y := pB ((decide (r.fn = 22)) || ((decide (r.and_ = 0)) && (decide (r.or_ = 0))))) rfl (mix_of g13) ?_
         exact r_mid ⟨⟨rfl,rfl,trivial⟩,rfl,rfl⟩
       ·have g13' := g13
        try simp only [sB] at g13'
        refine rn hnt rfl rfl rfl g13 (rn hnt rfl rfl rfl g13 (rn hnt rfl rfl rfl g13 (ru hnt rfl rfl rfl (ru hnt rfl rfl rfl (ru hnt rfl rfl rfl (rn hnt rfl rfl rfl g13 (ry hnt rfl rfl rfl g12 (qo hnt rfl (s_pick_t rfl g13 rfl ?_)))))))))
        refine r_eq (s := 80) (y := pB ((decide (r.fn = 22)) || ((decide (r.and_ = 0)) && (decide (r.or_ = 0))))) rfl (mix_ot _ g13) ?_
        exact r_mid ⟨⟨rfl,rfl,trivial⟩,rfl,rfl⟩
      ·refine qo hnt rfl (s_pick_t rfl g12 rfl ?_)
       refine r_eq (s := 81) (y := pB (((((((!decide (r.fn = 8)) && (!decide (r.fn = 17))) || (decide (r.at_ = 0))) && (((((decide (1 ≤ r.fn ∧ r.fn ≤ 4)) || (decide (r.fn = 15))) || (decide (r.fn = 16))) || (decide (r.fn = 23))) || (decide (r.count = 0)))) && ((decide (r.fn = 23)) || (decide (r.wAt = 0)))) && ((decide (r.fn = 8)) || (decide (r.sub = 0)))) && ((decide (r.fn = 22)) || ((decide (r.and_ = 0)) && (decide (r.or_ = 0)))))) rfl (mix_at g12) ?_
       exact r_mid ⟨⟨rfl,trivial⟩,rfl,rfl⟩
     ·have g12' := g12
      try simp only [sB] at g12'
      refine rn hnt rfl rfl rfl g12 (ru hnt rfl rfl rfl (ru hnt rfl rfl rfl (ru hnt rfl rfl rfl (ru hnt rfl rfl rfl (ru hnt rfl rfl rfl (ru hnt rfl rfl rfl (ru hnt rfl rfl rfl (ru hnt rfl rfl rfl (rn hnt rfl rfl rfl g12 ?_)))))))))
      refine qo hnt rfl (s_pick_f rfl g12 rfl ?_)
      refine r_eq (s := 81) (y := pB (((((((!decide (r.fn = 8)) && (!decide (r.fn = 17))) || (decide (r.at_ = 0))) && (((((decide (1 ≤ r.fn ∧ r.fn ≤ 4)) || (decide (r.fn = 15))) || (decide (r.fn = 16))) || (decide (r.fn = 23))) || (decide (r.count = 0)))) && ((decide (r.fn = 23)) || (decide (r.wAt = 0)))) && ((decide (r.fn = 8)) || (decide (r.sub = 0)))) && ((decide (r.fn = 22)) || ((decide (r.and_ = 0)) && (decide (r.or_ = 0)))))) rfl (mix_af _ g12) ?_
      exact r_mid ⟨⟨rfl,trivial⟩,rfl,rfl⟩
    ·exact ae hnt rfl rfl (w_le (s := 2) (y := pB (fieldsP r)) rfl (le_of_eq (congrArg pB (show (((((((!decide (r.fn = 8)) && (!decide (r.fn = 17))) || (decide (r.at_ = 0))) && (((((decide (1 ≤ r.fn ∧ r.fn ≤ 4)) || (decide (r.fn = 15))) || (decide (r.fn = 16))) || (decide (r.fn = 23))) || (decide (r.count = 0)))) && ((decide (r.fn = 23)) || (decide (r.wAt = 0)))) && ((decide (r.fn = 8)) || (decide (r.sub = 0)))) && ((decide (r.fn = 22)) || ((decide (r.and_ = 0)) && (decide (r.or_ = 0))))) = (fieldsP r) by unfold fieldsP; apply Bool.eq_iff_iff.2; simp only [Bool.and_eq_true,Bool.or_eq_true,Bool.not_eq_true',decide_eq_true_eq,decide_eq_false_iff_not,u16z]; try omega))) (w_ret fp))
theorem w_pdu_Right (r : TRequest) (hb : r.bits.length ≤ 140737488351232) (hv : r.vals.length ≤ 140737488351232) :
    T Try.prog 43 [PV.f (eRequest r)] 0 [] (Ret (pI (rightR r)) 0 []) := by
 refine t_fun tabOk (n := 63) (rs := [.tmp 2]) Try.func43 rfl rfl rfl rfl (nb rfl) ?_
 intro c hnt hk
 refine sr (qo hnt rfl (s_box rfl rfl ?_))
 refine qa hnt rfl rfl (r_set [(1,PV.ptr 0 0)] [(0,.obj (cRequest r))] 1 ⟨rfl,trivial⟩ rfl rfl (re (w_seq (w_block (sr ?_)))))
 refine xp hnt 2 [.o 2] [] [(5,pI r.fn)] (qo hnt rfl (s_callF rfl rfl rfl (w_pdu_function r.fn) rfl ?_))
 refine xp hnt 2 [.o 2] [] [(3,pB (!(hasF r.fn)))] (re (w_if rfl (fun c1 => ?_) (fun c1 => ?_)))
 ·have c1_ := c1
  try simp only [sB] at c1
  exact sr (ae hnt rfl rfl (w_le (s := 2) (y := pI (rightR r)) rfl (le_of_eq (congrArg pI (show 15 = (rightR r) by exact (rightR_1 c1_).symm))) (w_ret (q_block_ret (q_then_ret fp)))))
 have c1_ := c1
 try simp only [sB] at c1
 refine sr (xp hnt 1 [.o 1] [] [(9,PV.f (eRequest r))] (qo hnt rfl (s_callF rfl rfl rfl (w_pdu_fields r (by omega) (by omega)) rfl ?_)))
 refine xp hnt 26 [.o 2,.b 4 [.o 2,.c (pB (wordOk r.at_)),.o 1],.o 1,.b 4 [.o 2,.c (pB (wordOk r.wAt)),.o 1],.o 1,.b 4 [.o 2,.c (pB (wordOk r.sub)),.o 1],.o 1,.b 4 [.o 2,.c (pB (wordOk r.count)),.o 1],.o 1] [(!(fieldsP r)) = false → AllP [T Try.prog 64 [pI r.at_] 0 [] (Ret (pB (wordOk r.at_)) 0 [])],((!(fieldsP r)) || (!(wordOk r.at_))) = false → AllP [T Try.prog 64 [pI r.wAt] 0 [] (Ret (pB (wordOk r.wAt)) 0 [])],(((!(fieldsP r)) || (!(wordOk r.at_))) || (!(wordOk r.wAt))) = false → AllP [T Try.prog 64 [pI r.sub] 0 [] (Ret (pB (wordOk r.sub)) 0 [])],((((!(fieldsP r)) || (!(wordOk r.at_))) || (!(wordOk r.wAt))) || (!(wordOk r.sub))) = false → AllP [T Try.prog 64 [pI r.count] 0 [] (Ret (pB (wordOk r.count)) 0 [])]] [(8,pB (((((!(fieldsP r)) || (!(wordOk r.at_))) || (!(wordOk r.wAt))) || (!(wordOk r.sub))) || (!(wordOk r.count))))] ?_ (hc := ⟨by intro hq; (try simp only [sB] at hq); exact ⟨(w_pdu_within r.at_),trivial⟩,by intro hq; (try simp only [sB] at hq); exact ⟨(w_pdu_within r.wAt),trivial⟩,by intro hq; (try simp only [sB] at hq); exact ⟨(w_pdu_within r.sub),trivial⟩,by intro hq; (try simp only [sB] at hq); exact ⟨(w_pdu_within r.count),trivial⟩,trivial⟩)
 refine re (w_if rfl (fun c2 => ?_) (fun c2 => ?_))
 ·have c2_ := c2
  try simp only [sB] at c2
  exact sr (ae hnt rfl rfl (w_le (s := 2) (y := pI (rightR r)) rfl (le_of_eq (congrArg pI (show 12 = (rightR r) by exact (wrong_P c1 (fun h => Bool.noConfusion (c2_.symm.trans h.1))).symm))) (w_ret (q_block_ret (q_then_ret fp)))))
 have c2_ := c2
 try simp only [sB] at c2
 refine w_seq (wdr hnt (xq 7 [.o 2,.c (pN r.bits.length),.o 1,.c (pI (bitsN r)),.o 2] [lenC encBo r.bits,T Try.prog 65 [PV.f (eRequest r)] 0 [] (Ret (pI (bitsN r)) 0 [])] ?_ (hc := ⟨lenC_ok _ _,(w_pdu_bits r (by omega) (by omega)),trivial⟩)))
 refine xi 43 [(43,pB (!decide (((r.bits.length : Nat) : Int) = bitsN r))),(1,PV.ptr 0 0)] rfl (fun g5 => ?_) (fun g5 => ?_)
 ·have g5' := g5
  try simp only [sB] at g5'
  refine xkg [(43,pB (!decide (((r.bits.length : Nat) : Int) = bitsN r))),(1,PV.ptr 0 0)] [] [] [] [(0,.obj (cRequest r))] (s_fa_ptr tab_37 rfl rfl tab_34 (by decide) rfl ⟨rfl,rfl,rfl⟩) (xey 43 [(43,pB (!decide (((r.bits.length : Nat) : Int) = bitsN r))),(44,PV.ptr 0 6)] rfl g5 (xkg [(43,pB (!decide (((r.bits.length : Nat) : Int) = bitsN r))),(44,PV.ptr 0 6)] [(0,.obj (cRequest r))] [] [(0,.obj (cRequest r))] [(0,.obj (cRequest r))] (s_load_ptr1 tab_34 rfl rfl rfl rfl rfl ⟨rfl,rfl,rfl⟩) ?_ (hs := ⟨rfl,trivial⟩)))
  refine xey 43 [(43,pB (!decide (((r.bits.length : Nat) : Int) = bitsN r))),(45,pS 1 false enc16 r.vals)] rfl g5 (xkg [(43,pB (!decide (((r.bits.length : Nat) : Int) = bitsN r))),(45,pS 1 false enc16 r.vals)] [] [] [] [(0,.obj (cRequest r))] (s_lenM (l := r.vals) tab_34 rfl (hM_sl (f := enc16) rfl) ⟨rfl,rfl,rfl⟩) (xey 43 [(43,pB (!decide (((r.bits.length : Nat) : Int) = bitsN r))),(1,PV.ptr 0 0)] rfl g5 (xkg [(43,pB (!decide (((r.bits.length : Nat) : Int) = bitsN r))),(1,PV.ptr 0 0)] [(0,.obj (cRequest r))] [] [(0,.obj (cRequest r))] [(0,.obj (cRequest r))] (s_load_ptr tab_37 rfl rfl rfl (nb rfl) ⟨rfl,rfl,rfl⟩) ?_ (hs := ⟨rfl,trivial⟩))))
  refine xey 43 [(43,pB (!decide (((r.bits.length : Nat) : Int) = bitsN r))),(47,PV.f (eRequest r))] rfl g5 (xkg [(43,pB (!decide (((r.bits.length : Nat) : Int) = bitsN r))),(47,PV.f (eRequest r))] [] [] [] [(0,.obj (cRequest r))] (s_callF rfl rfl rfl (w_pdu_vals r (by omega) (by omega)) rfl ⟨rfl,rfl,rfl⟩) (xey 43 [(43,pB (!decide (((r.bits.length : Nat) : Int) = bitsN r))),(46,pN r.vals.length),(48,pI (valsN r))] rfl g5 (xkg [(43,pB (!decide (((r.bits.length : Nat) : Int) = bitsN r))),(46,pN r.vals.length),(48,pI (valsN r))] [] [] [] [(0,.obj (cRequest r))] (s_neq rfl rfl ⟨rfl,rfl,rfl⟩) (xk [(43,pB (!decide (((r.bits.length : Nat) : Int) = bitsN r))),(49,pB (!decide (((r.vals.length : Nat) : Int) = valsN r)))] [] [] [] [(0,.obj (cRequest r))] (s_pick_f rfl g5 rfl ⟨rfl,rfl,rfl⟩) (xq 1 [.o 1] [] ?_)))))
  refine xi 51 [(51,pB (!decide (((r.vals.length : Nat) : Int) = valsN r))),(1,PV.ptr 0 0)] rfl (fun g6 => ?_) (fun g6 => ?_)
  ·have g6' := g6
   try simp only [sB] at g6'
   refine xkg [(51,pB (!decide (((r.vals.length : Nat) : Int) = valsN r))),(1,PV.ptr 0 0)] [] [] [] [(0,.obj (cRequest r))] (s_fa_ptr tab_37 rfl rfl tab_33 (by decide) rfl ⟨rfl,rfl,rfl⟩) (xey 51 [(51,pB (!decide (((r.vals.length : Nat) : Int) = valsN r))),(52,PV.ptr 0 5)] rfl g6 (xkg [(51,pB (!decide (((r.vals.length : Nat) : Int) = valsN r))),(52,PV.ptr 0 5)] [(0,.obj (cRequest r))] [] [(0,.obj (cRequest r))] [(0,.obj (cRequest r))] (s_load_ptr1 tab_33 rfl rfl rfl rfl rfl ⟨rfl,rfl,rfl⟩) ?_ (hs := ⟨rfl,trivial⟩)))
   refine xey 51 [(51,pB (!decide (((r.vals.length : Nat) : Int) = valsN r))),(53,pS 1 false encBo r.bits)] rfl g6 (xkg [(51,pB (!decide (((r.vals.length : Nat) : Int) = valsN r))),(53,pS 1 false encBo r.bits)] [] [] [] [(0,.obj (cRequest r))] (s_lenM (l := r.bits) tab_33 rfl (hM_sl (f := encBo) rfl) ⟨rfl,rfl,rfl⟩) (xey 51 [(51,pB (!decide (((r.vals.length : Nat) : Int) = valsN r))),(54,pN r.bits.length)] rfl g6 (xkg [(51,pB (!decide (((r.vals.length : Nat) : Int) = valsN r))),(54,pN r.bits.length)] [] [] [] [(0,.obj (cRequest r))] (s_gtr rfl rfl ⟨rfl,rfl,rfl⟩) (xk [(51,pB (!decide (((r.vals.length : Nat) : Int) = valsN r))),(55,pB (decide (2040 < ((r.bits.length : Nat) : Int))))] [] [] [] [(0,.obj (cRequest r))] (s_pick_f rfl g6 rfl ⟨rfl,rfl,rfl⟩) (xq 1 [.o 1] [] ?_)))))
   refine xi 57 [(57,pB (decide (2040 < ((r.bits.length : Nat) : Int)))),(1,PV.ptr 0 0)] rfl (fun g7 => ?_) (fun g7 => ?_)
   ·have g7' := g7
    try simp only [sB] at g7'
    refine xkg [(57,pB (decide (2040 < ((r.bits.length : Nat) : Int)))),(1,PV.ptr 0 0)] [] [] [] [(0,.obj (cRequest r))] (s_fa_ptr tab_37 rfl rfl tab_34 (by decide) rfl ⟨rfl,rfl,rfl⟩) (xey 57 [(57,pB (decide (2040 < ((r.bits.length : Nat) : Int)))),(58,PV.ptr 0 6)] rfl g7 (xkg [(57,pB (decide (2040 < ((r.bits.length : Nat) : Int)))),(58,PV.ptr 0 6)] [(0,.obj (cRequest r))] [] [(0,.obj (cRequest r))] [(0,.obj (cRequest r))] (s_load_ptr1 tab_34 rfl rfl rfl rfl rfl ⟨rfl,rfl,rfl⟩) ?_ (hs := ⟨rfl,trivial⟩)))
    refine xey 57 [(57,pB (decide (2040 < ((r.bits.length : Nat) : Int)))),(59,pS 1 false enc16 r.vals)] rfl g7 (xkg [(57,pB (decide (2040 < ((r.bits.length : Nat) : Int)))),(59,pS 1 false enc16 r.vals)] [] [] [] [(0,.obj (cRequest r))] (s_lenM (l := r.vals) tab_34 rfl (hM_sl (f := enc16) rfl) ⟨rfl,rfl,rfl⟩) (xey 57 [(57,pB (decide (2040 < ((r.bits.length : Nat) : Int)))),(60,pN r.vals.length)] rfl g7 (xkg [(57,pB (decide (2040 < ((r.bits.length : Nat) : Int)))),(60,pN r.vals.length)] [] [] [] [(0,.obj (cRequest r))] (s_gtr rfl rfl ⟨rfl,rfl,rfl⟩) (xk [(57,pB (decide (2040 < ((r.bits.length : Nat) : Int)))),(61,pB (decide (127 < ((r.vals.length : Nat) : Int))))] [] [] [] [(0,.obj (cRequest r))] (s_pick_f rfl g7 rfl ⟨rfl,rfl,rfl⟩) (xq 1 [.o 1] [] ?_)))))
    refine xe [(36,pB (decide (127 < ((r.vals.length : Nat) : Int))))] (re (w_if rfl (fun c3 => ?_) (fun c3 => ?_)))
    ·try simp only [sB] at c3
     exact sr (ae hnt rfl rfl (w_le (s := 2) (y := pI (rightR r)) rfl (le_of_eq (congrArg pI (show 12 = (rightR r) by exact (wrong_P c1 (fun h => by omega)).symm))) (w_ret (q_block_ret (q_then_ret fp)))))
    try simp only [sB] at c3
    exact w_skip (q_block (q_then (sr (ae hnt rfl rfl (w_le (s := 2) (y := pI (rightR r)) rfl (le_of_eq (congrArg pI (show 0 = (rightR r) by exact (right_P c1 c2_ (by omega) (by omega) (by omega) (by omega)).symm))) (w_ret fp))))))
   have g7' := g7
   try simp only [sB] at g7'
   refine xen 57 [(57,pB (decide (2040 < ((r.bits.length : Nat) : Int)))),(58,undefP)] rfl g7 (xen 57 [(57,pB (decide (2040 < ((r.bits.length : Nat) : Int)))),(59,undefP)] rfl g7 (xen 57 [(57,pB (decide (2040 < ((r.bits.length : Nat) : Int)))),(60,undefP)] rfl g7 (xk [(57,pB (decide (2040 < ((r.bits.length : Nat) : Int)))),(61,undefP)] [] [] [] [(0,.obj (cRequest r))] (s_pick_t rfl g7 rfl ⟨rfl,rfl,rfl⟩) (xq 1 [.o 1] [] (xe [(36,pB true)] ?_)))))
   refine re (w_if rfl (fun _ => ?_) (fun e => absurd e (by decide)))
   exact sr (ae hnt rfl rfl (w_le (s := 2) (y := pI (rightR r)) rfl (le_of_eq (congrArg pI (show 12 = (rightR r) by exact (wrong_P c1 (fun h => by omega)).symm))) (w_ret (q_block_ret (q_then_ret fp)))))
  have g6' := g6
  try simp only [sB] at g6'
  refine xen 51 [(51,pB (!decide (((r.vals.length : Nat) : Int) = valsN r))),(52,undefP)] rfl g6 (xen 51 [(51,pB (!decide (((r.vals.length : Nat) : Int) = valsN r))),(53,undefP)] rfl g6 (xen 51 [(51,pB (!decide (((r.vals.length : Nat) : Int) = valsN r))),(54,undefP)] rfl g6 (xk [(51,pB (!decide (((r.vals.length : Nat) : Int) = valsN r))),(55,undefP)] [] [] [] [(0,.obj (cRequest r))] (s_pick_t rfl g6 rfl ⟨rfl,rfl,rfl⟩) (xq 7 [.o 7] [] (xe [(36,pB true)] ?_)))))
  refine re (w_if rfl (fun _ => ?_) (fun e => absurd e (by decide)))
  exact sr (ae hnt rfl rfl (w_le (s := 2) (y := pI (rightR r)) rfl (le_of_eq (congrArg pI (show 12 = (rightR r) by exact (wrong_P c1 (fun h => by omega)).symm))) (w_ret (q_block_ret (q_then_ret fp)))))
 have g5' := g5
 try simp only [sB] at g5'
 refine xen 43 [(43,pB (!decide (((r.bits.length : Nat) : Int) = bitsN r))),(44,undefP)] rfl g5 (xen 43 [(43,pB (!decide (((r.bits.length : Nat) : Int) = bitsN r))),(45,undefP)] rfl g5 (xen 43 [(43,pB (!decide (((r.bits.length : Nat) : Int) = bitsN r))),(1,PV.ptr 0 0)] rfl g5 (xen 43 [(43,pB (!decide (((r.bits.length : Nat) : Int) = bitsN r))),(47,undefP)] rfl g5 (xen 43 [(43,pB (!decide (((r.bits.length : Nat) : Int) = bitsN r))),(46,undefP),(48,undefP)] rfl g5 (xk [(43,pB (!decide (((r.bits.length : Nat) : Int) = bitsN r))),(49,undefP)] [] [] [] [(0,.obj (cRequest r))] (s_pick_t rfl g5 rfl ⟨rfl,rfl,rfl⟩) ?_)))))
 refine xq 13 [.o 13] [] (xe [(36,pB true)] (re (w_if rfl (fun _ => ?_) (fun e => absurd e (by decide)))))
 exact sr (ae hnt rfl rfl (w_le (s := 2) (y := pI (rightR r)) rfl (le_of_eq (congrArg pI (show 12 = (rightR r) by exact (wrong_P c1 (fun h => by omega)).symm))) (w_ret (q_block_ret (q_then_ret fp)))))
theorem w_burgageref3_bits (s : List Bool) (cl_s : Bool) (m : List Bool) (cl_m : Bool) (hs : s.length ≤ 140737488355328) :
    T Try.prog 52 [pS 1 cl_s encBo s,pS 1 cl_m encBo m] 0 [] (Ret (pB (decide (s = m))) 0 []) := by
 refine t_fun tabOk (n := 26) (rs := [.tmp 4]) Try.func52 rfl rfl rfl rfl (nb rfl) ?_
 intro c hnt hk
 refine sr (ae hnt rfl rfl (w_seq (sr (xp hnt 5 [.o 1,.c (pN s.length),.o 1,.c (pN m.length),.o 1] [lenC encBo s,lenC encBo m] [(10,pB (!decide (((s.length : Nat) : Int) = ((m.length : Nat) : Int))))] ?_ (hc := ⟨lenC_ok _ _,lenC_ok _ _,trivial⟩)))))
 refine re (w_if rfl (fun c1 => ?_) (fun c1 => ?_))
 ·try simp only [sB] at c1
  have hne : s ≠ m := fun e => by subst e; simp at c1
  exact sr (ae hnt rfl rfl (w_le (s := 4) (y := pB (decide (s = m))) rfl (le_of_eq (congrArg pB (show false = (decide (s = m)) by simp [hne]))) (w_ret (q_then_ret fp))))
 try simp only [sB] at c1
 have hlm : s.length = m.length := by omega
 refine w_skip (q_then (w_seq (sr (qm hnt rfl rfl (qo hnt rfl (s_lenM (l := s) tab_33 rfl (hM_sl (f := encBo) rfl) ?_))))))
 refine qm hnt rfl rfl (re (w_block (loop1 (fun (i : Nat) => i ≤ s.length ∧ s.take i = m.take i) (fun (i : Nat) => [(0,pS 1 cl_s encBo s),(1,pS 1 cl_m encBo m),(12,pN s.length),(13,pN i)]) 0 (fun (i : Nat) => []) (fun (i : Nat) => s.length - i) (0) ?_ ⟨[],rfl,⟨⟨_,rfl,rfl,rfl⟩,⟨_,rfl,rfl,rfl⟩,⟨_,rfl,rfl,rfl⟩,⟨_,rfl,rfl,rfl⟩,trivial⟩,trivial,by rw [hk]; decide⟩ ?_)))
 · exact ⟨Nat.zero_le _,by simp⟩
 ·intro i hI
  obtain ⟨hi,ht⟩ := hI
  refine sr (qo hnt rfl (s_lss rfl rfl ?_))
  refine re (w_seq (w_if rfl (fun c2 => ?_) (fun c2 => ?_)))
  ·try simp only [sB] at c2
   refine w_skip (q_then (w_seq (w_block (sr (xp hnt 2 [.o 2] [] [(5,pN i)] ?_)))))
   refine re (w_seq (wdr hnt (xq 2 [.o 2] [] ?_)))
   obtain ⟨e1,he1⟩ := get_of_lt s (i := i) (by omega)
   refine xk [(16,pS 1 cl_s encBo s),(17,pN i)] [] [] [] [] (s_iaM (q := i) (b := e1) (f := encBo) tab_33 rfl tab_4 rfl rfl (by omega) rfl he1 ⟨rfl,rfl,rfl⟩) (xq 3 [.o 3] [] ?_)
   obtain ⟨e2,he2⟩ := get_of_lt m (i := i) (by omega)
   refine xk [(20,pS 1 cl_m encBo m),(21,pN i)] [] [] [] [] (s_iaM (q := i) (b := e2) (f := encBo) tab_33 rfl tab_4 rfl rfl (by omega) rfl he2 ⟨rfl,rfl,rfl⟩) (xq 2 [.o 2] [] (xe [(0,pS 1 cl_s encBo s),(1,pS 1 cl_m encBo m),(12,pN s.length),(13,pN i),(24,pB (!(e1 == e2)))] (re (w_if rfl (fun c3 => ?_) (fun c3 => ?_)))))
   ·try simp only [sB] at c3
    have hne : s ≠ m := fun e => by subst e; rw [he1] at he2; cases he2; simp at c3
    exact sr (ae hnt rfl rfl (w_le (s := 4) (y := pB (decide (s = m))) rfl (le_of_eq (congrArg pB (show false = (decide (s = m)) by simp [hne]))) (w_ret (q_block_ret (q_then_ret (q_then_ret (q_block_ret (q_then_ret fp))))))))
   try simp only [sB] at c3
   have c3e : e1 = e2 := by simpa using c3
   refine w_skip (q_block (q_then (w_R (qo hnt rfl (s_addN (a := i) (b := 1) rfl rfl (by omega) (by omega) (by omega) ?_)))))
   refine qm hnt rfl rfl (re (⟨(i + 1), ?_, ?_,⟨[],rfl,⟨⟨_,rfl,rfl,rfl⟩,⟨_,rfl,rfl,rfl⟩,⟨_,rfl,rfl,rfl⟩,⟨_,rfl,rfl,rfl⟩,trivial⟩,trivial,by rw [hk]; decide⟩⟩))
   ·refine ⟨by omega, ?_⟩
    rw [List.take_add_one,List.take_add_one,he1,he2,ht,c3e]
   · omega
  try simp only [sB] at c2
  have h1 : s.take i = s := List.take_of_length_le (by omega)
  have h2 : m.take i = m := List.take_of_length_le (by omega)
  have he : s = m := by rw [← h1,← h2,ht]
  exact w_exit (q_then_exit (q_then_exit (q_block_exit (q_then (sr (ae hnt rfl rfl (w_le (s := 4) (y := pB (decide (s = m))) rfl (le_of_eq (congrArg pB (show true = (decide (s = m)) by simp [he]))) (w_ret fp))))))))
theorem w_burgageref3_vals (s : List UInt16) (cl_s : Bool) (m : List UInt16) (cl_m : Bool) (hs : s.length ≤ 140737488355328) :
    T Try.prog 53 [pS 1 cl_s enc16 s,pS 1 cl_m enc16 m] 0 [] (Ret (pB (decide (s = m))) 0 []) := by
 refine t_fun tabOk (n := 26) (rs := [.tmp 4]) Try.func53 rfl rfl rfl rfl (nb rfl) ?_
 intro c hnt hk
 refine sr (ae hnt rfl rfl (w_seq (sr (xp hnt 5 [.o 1,.c (pN s.length),.o 1,.c (pN m.length),.o 1] [lenC enc16 s,lenC enc16 m] [(10,pB (!decide (((s.length : Nat) : Int) = ((m.length : Nat) : Int))))] ?_ (hc := ⟨lenC_ok _ _,lenC_ok _ _,trivial⟩)))))
 refine re (w_if rfl (fun c1 => ?_) (fun c1 => ?_))
 ·try simp only [sB] at c1
  have hne : s ≠ m := fun e => by subst e; simp at c1
  exact sr (ae hnt rfl rfl (w_le (s := 4) (y := pB (decide (s = m))) rfl (le_of_eq (congrArg pB (show false = (decide (s = m)) by simp [hne]))) (w_ret (q_then_ret fp))))
 try simp only [sB] at c1
 have hlm : s.length = m.length := by omega
 refine w_skip (q_then (w_seq (sr (qm hnt rfl rfl (qo hnt rfl (s_lenM (l := s) tab_34 rfl (hM_sl (f := enc16) rfl) ?_))))))
 refine qm hnt rfl rfl (re (w_block (loop1 (fun (i : Nat) => i ≤ s.length ∧ s.take i = m.take i) (fun (i : Nat) => [(0,pS 1 cl_s enc16 s),(1,pS 1 cl_m enc16 m),(12,pN s.length),(13,pN i)]) 0 (fun (i : Nat) => []) (fun (i : Nat) => s.length - i) (0) ?_ ⟨[],rfl,⟨⟨_,rfl,rfl,rfl⟩,⟨_,rfl,rfl,rfl⟩,⟨_,rfl,rfl,rfl⟩,⟨_,rfl,rfl,rfl⟩,trivial⟩,trivial,by rw [hk]; decide⟩ ?_)))
 · exact ⟨Nat.zero_le _,by simp⟩
 ·intro i hI
  obtain ⟨hi,ht⟩ := hI
  refine sr (qo hnt rfl (s_lss rfl rfl ?_))
  refine re (w_seq (w_if rfl (fun c2 => ?_) (fun c2 => ?_)))
  ·try simp only [sB] at c2
   refine w_skip (q_then (w_seq (w_block (sr (xp hnt 2 [.o 2] [] [(5,pN i)] ?_)))))
   refine re (w_seq (wdr hnt (xq 2 [.o 2] [] ?_)))
   obtain ⟨e1,he1⟩ := get_of_lt s (i := i) (by omega)
   refine xk [(16,pS 1 cl_s enc16 s),(17,pN i)] [] [] [] [] (s_iaM (q := i) (b := e1) (f := enc16) tab_34 rfl tab_35 rfl rfl (by omega) rfl he1 ⟨rfl,rfl,rfl⟩) (xq 3 [.o 3] [] ?_)
   obtain ⟨e2,he2⟩ := get_of_lt m (i := i) (by omega)
   refine xk [(20,pS 1 cl_m enc16 m),(21,pN i)] [] [] [] [] (s_iaM (q := i) (b := e2) (f := enc16) tab_34 rfl tab_35 rfl rfl (by omega) rfl he2 ⟨rfl,rfl,rfl⟩) (xq 2 [.o 1,.c (pB (!decide (e1 = e2)))] [neC16 e1 e2] ?_ (hc := ⟨neC16_ok _ _,trivial⟩))
   refine xe [(0,pS 1 cl_s enc16 s),(1,pS 1 cl_m enc16 m),(12,pN s.length),(13,pN i),(24,pB (!decide (e1 = e2)))] (re (w_if rfl (fun c3 => ?_) (fun c3 => ?_)))
   ·try simp only [sB] at c3
    have hne : s ≠ m := fun e => by subst e; rw [he1] at he2; cases he2; simp at c3
    exact sr (ae hnt rfl rfl (w_le (s := 4) (y := pB (decide (s = m))) rfl (le_of_eq (congrArg pB (show false = (decide (s = m)) by simp [hne]))) (w_ret (q_block_ret (q_then_ret (q_then_ret (q_block_ret (q_then_ret fp))))))))
   try simp only [sB] at c3
   have c3e : e1 = e2 := by simpa using c3
   refine w_skip (q_block (q_then (w_R (qo hnt rfl (s_addN (a := i) (b := 1) rfl rfl (by omega) (by omega) (by omega) ?_)))))
   refine qm hnt rfl rfl (re (⟨(i + 1), ?_, ?_,⟨[],rfl,⟨⟨_,rfl,rfl,rfl⟩,⟨_,rfl,rfl,rfl⟩,⟨_,rfl,rfl,rfl⟩,⟨_,rfl,rfl,rfl⟩,trivial⟩,trivial,by rw [hk]; decide⟩⟩))
   ·refine ⟨by omega, ?_⟩
    rw [List.take_add_one,List.take_add_one,he1,he2,ht,c3e]
   · omega
  try simp only [sB] at c2
  have h1 : s.take i = s := List.take_of_length_le (by omega)
  have h2 : m.take i = m := List.take_of_length_le (by omega)
  have he : s = m := by rw [← h1,← h2,ht]
  exact w_exit (q_then_exit (q_then_exit (q_block_exit (q_then (sr (ae hnt rfl rfl (w_le (s := 4) (y := pB (decide (s = m))) rfl (le_of_eq (congrArg pB (show true = (decide (s = m)) by simp [he]))) (w_ret fp))))))))
def manyOk (q : TRequest) : Bool := decide ((q.fn = 1 ∨ q.fn = 2 → 1 ≤ q.count ∧ q.count ≤ 2000) ∧ (q.fn = 3 ∨ q.fn = 4 → 1 ≤ q.count ∧ q.count ≤ 125) ∧ (q.fn = 15 → 1 ≤ q.count ∧ q.count ≤ 1968) ∧ (q.fn = 16 → 1 ≤ q.count ∧ q.count ≤ 123) ∧
  (q.fn = 23 → (1 ≤ q.count ∧ q.count ≤ 125) ∧ 1 ≤ q.vals.length ∧ q.vals.length ≤ 121))
def countsR (q : TRequest) : Bool := decide (rightR q = 0) && manyOk q
section
variable {g : List UInt8 → TRequest}{b : List UInt8}
end
theorem counts_no {q : TRequest} (h : ¬ rightR q = 0) : countsR q = false := by unfold countsR; rw [decide_eq_false h]; rfl
theorem counts_yes {q : TRequest} (h : rightR q = 0) : countsR q = manyOk q := by unfold countsR; rw [decide_eq_true h]; rfl
end Go.Proofs.Ytlcmbkkimgdnmaa
