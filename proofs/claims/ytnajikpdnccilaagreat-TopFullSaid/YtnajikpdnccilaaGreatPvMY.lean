/- A region that draws its order: what the kernel works out is so. -/
import Derived.Test.YtnajikpdnccilaaGreatPvMX
set_option linter.unusedVariables false
set_option linter.unusedSimpArgs false
namespace Go.Proofs.YtnajikpdnccilaaGreat.Pv.M
open Go

section
variable {ρ : Nat → Int} {P : Program} {D : Dm}
/-! ### An operation looks at its own slots alone -/
theorem ev_same {env env' : Env} {x : Operand} (h : ∀ t ∈ tmpsOf [x], look env t = look env' t) : ev env x = ev env' x := by
  cases x with
  | tmp t => exact h t (by simp [tmpsOf])
  | _ => rfl
theorem tmpsOf_cons (x : Operand) (l : List Operand) : ∀ t, t ∈ tmpsOf (x :: l) ↔ t ∈ tmpsOf [x] ∨ t ∈ tmpsOf l := by
  intro t
  simp only [tmpsOf, List.mem_filterMap, List.mem_cons, List.not_mem_nil, or_false]
  constructor
  · rintro ⟨y, rfl | hy, e⟩
    · exact .inl ⟨y, rfl, e⟩
    · exact .inr ⟨y, hy, e⟩
  · rintro (⟨y, rfl, e⟩ | ⟨y, hy, e⟩)
    · exact ⟨y, .inl rfl, e⟩
    · exact ⟨y, .inr hy, e⟩
theorem tmpsOf_app (l m : List Operand) : ∀ t, t ∈ tmpsOf (l ++ m) ↔ t ∈ tmpsOf l ∨ t ∈ tmpsOf m := by
  intro t
  simp [tmpsOf, or_and_right, exists_or]
theorem evs_same {env env' : Env} : ∀ {l : List Operand}, (∀ t ∈ tmpsOf l, look env t = look env' t) → evs env l = evs env' l
  | [], _ => rfl
  | x :: l, h => by
    show bo (ev env x) (fun v => bo (evs env l) fun r => some (v :: r)) = bo (ev env' x) (fun v => bo (evs env' l) fun r => some (v :: r))
    rw [ev_same (fun t ht => h t ((tmpsOf_cons x l t).2 (.inl ht))), evs_same (fun t ht => h t ((tmpsOf_cons x l t).2 (.inr ht)))]
theorem fill_same {env env' : Env} {place : Nat → Option (Nat × Nat)} : ∀ {ps : List (Nat × Operand)} {cs : List MV}, (∀ t ∈ tmpsOf (ps.map (·.2)), look env t = look env' t) → fillG env place ps cs = fillG env' place ps cs
  | [], cs, _ => rfl
  | p :: ps, cs, h => by
    have h1 : ev env p.2 = ev env' p.2 := ev_same fun t ht => h t ((tmpsOf_cons p.2 _ t).2 (.inl ht))
    have ih : fillG env place ps = fillG env' place ps := by funext ds; exact fill_same fun t ht => h t ((tmpsOf_cons p.2 _ t).2 (.inr ht))
    show bo (place p.1) (fun q => bo (ev env p.2) fun v => bi (allB oneM (cellsOf v)) (bi (Nat.beq (len (cellsOf v)) q.2) (bo (put (cellsOf v) q.1 cs) (fillG env place ps)) none) none) =
      bo (place p.1) (fun q => bo (ev env' p.2) fun v => bi (allB oneM (cellsOf v)) (bi (Nat.beq (len (cellsOf v)) q.2) (bo (put (cellsOf v) q.1 cs) (fillG env' place ps)) none) none)
    rw [h1, ih]
theorem optN_same {env env' : Env} {d : Nat} {x : Option Operand} {κ : Nat → Bool} (h : ∀ t ∈ tmpsOf (optL x), look env t = look env' t) : optN env d x κ = optN env' d x κ := by
  cases x with
  | none => rfl
  | some x =>
    show ob (ev env x) _ = ob (ev env' x) _
    rw [ev_same h]
theorem oOp_same {env env' : Env} {call : CallK} {nx : Nat} {H : Heap} {k : KV} (op : Op) (h : ∀ t ∈ tmpsOf (opnds op), look env t = look env' t) : oOp P D op call env nx H k = oOp P D op call env' nx H k := by
  have one : ∀ {x : Operand}, (∀ t, t ∈ tmpsOf [x] → t ∈ tmpsOf (opnds op)) → ev env x = ev env' x := fun hx => ev_same fun t ht => h t (hx t ht)
  have fst : ∀ {x : Operand} {l : List Operand}, opnds op = x :: l → ev env x = ev env' x := fun {x l} e => one fun t ht => by rw [e]; exact (tmpsOf_cons _ _ t).2 (.inl ht)
  have snd : ∀ {x y : Operand} {l : List Operand}, opnds op = x :: y :: l → ev env y = ev env' y := fun {x y l} e => one fun t ht => by rw [e]; exact (tmpsOf_cons _ _ t).2 (.inr ((tmpsOf_cons _ _ t).2 (.inl ht)))
  have thd : ∀ {x y z : Operand} {l : List Operand}, opnds op = x :: y :: z :: l → ev env z = ev env' z := fun {x y z l} e => one fun t ht => by rw [e]; exact (tmpsOf_cons _ _ t).2 (.inr ((tmpsOf_cons _ _ t).2 (.inr ((tmpsOf_cons _ _ t).2 (.inl ht)))))
  cases op with
  | move x => show oMove x call env nx H k = oMove x call env' nx H k; unfold oMove; rw [fst rfl]
  | assign x => show oMove x call env nx H k = oMove x call env' nx H k; unfold oMove; rw [fst rfl]
  | pick c a b => show oPick c a b call env nx H k = oPick c a b call env' nx H k; unfold oPick; rw [fst rfl, snd rfl, thd rfl]
  | alloc t => rfl
  | box t x => show oBox t x call env nx H k = oBox t x call env' nx H k; unfold oBox; rw [fst rfl]
  | build t ps =>
    show oBuild P t ps call env nx H k = oBuild P t ps call env' nx H k
    unfold oBuild
    congr 1; funext z; congr 1; funext pl
    rw [fill_same h]
  | buildSlice t n ps =>
    show oBuildSlice P t n ps call env nx H k = oBuildSlice P t n ps call env' nx H k
    unfold oBuildSlice
    congr 1; funext r; congr 1
    rw [fill_same h]
  | insert t m q v => show oMapUpdate P t m q v call env nx H k = oMapUpdate P t m q v call env' nx H k; unfold oMapUpdate; rw [fst rfl, snd rfl, thd rfl]
  | load t x => show oLoad P t x call env nx H k = oLoad P t x call env' nx H k; unfold oLoad; rw [fst rfl]
  | store t x y => show oStore P t x y call env nx H k = oStore P t x y call env' nx H k; unfold oStore; rw [fst rfl, snd rfl]
  | nilCheck x => show oNilCheck x call env nx H k = oNilCheck x call env' nx H k; unfold oNilCheck; rw [fst rfl]
  | binOp op t x y u =>
    show oBin P D op t x y call env nx H k = oBin P D op t x y call env' nx H k
    have e1 := fst rfl
    have e2 := snd rfl
    cases op <;> first | (show bArith D _ _ t x y call env nx H k = bArith D _ _ t x y call env' nx H k; unfold bArith; rw [e1, e2]; done) | (show bEq P D _ _ _ t x y call env nx H k = bEq P D _ _ _ t x y call env' nx H k; unfold bEq; rw [e1, e2]; done) | (show bSh D _ t x y call env nx H k = bSh D _ t x y call env' nx H k; unfold bSh; rw [e1, e2]; done)
  | unOp op t x => show oUn op x call env nx H k = oUn op x call env' nx H k; unfold oUn; rw [fst rfl]
  | convert s t x => show oConv P D s t x call env nx H k = oConv P D s t x call env' nx H k; unfold oConv; rw [fst rfl]
  | makeInterface t x => show oMakeIface P t x call env nx H k = oMakeIface P t x call env' nx H k; unfold oMakeIface; rw [fst rfl]
  | makeFunc fn a b =>
    show oMakeFunc fn a b call env nx H k = oMakeFunc fn a b call env' nx H k
    have e1 : evs env a.toList = evs env' a.toList := evs_same fun t ht => h t ((tmpsOf_app _ _ t).2 (.inl ht))
    have e2 : evs env b.toList = evs env' b.toList := evs_same fun t ht => h t ((tmpsOf_app _ _ t).2 (.inr ht))
    unfold oMakeFunc
    cases fn <;> simp only [e1, e2]
  | makeMap t r => rfl
  | makeSlice t x y => show oMakeSlice P t x y call env nx H k = oMakeSlice P t x y call env' nx H k; unfold oMakeSlice; rw [fst rfl, snd rfl]
  | slice t x lo hi mx =>
    show oSlice P t x lo hi mx call env nx H k = oSlice P t x lo hi mx call env' nx H k
    have el : ∀ d κ, optN env d lo κ = optN env' d lo κ := fun d κ => optN_same fun t ht => h t ((tmpsOf_cons x _ t).2 (.inr ((tmpsOf_app _ _ t).2 (.inl ht))))
    have eh : ∀ d κ, optN env d hi κ = optN env' d hi κ := fun d κ => optN_same fun t ht => h t ((tmpsOf_cons x _ t).2 (.inr ((tmpsOf_app _ _ t).2 (.inr ((tmpsOf_app _ _ t).2 (.inl ht))))))
    have e1 : ev env x = ev env' x := fst rfl
    cases mx with
    | none => unfold oSlice; simp only [e1, el, eh]
    | some m =>
      have em : ev env m = ev env' m := ev_same fun t ht => h t ((tmpsOf_cons x _ t).2 (.inr ((tmpsOf_app _ _ t).2 (.inr ((tmpsOf_app _ _ t).2 (.inr ht))))))
      unfold oSlice; simp only [e1, el, eh, em]
  | fieldAddr s x q => show oFieldAddr P s x q call env nx H k = oFieldAddr P s x q call env' nx H k; unfold oFieldAddr; rw [fst rfl]
  | field s x q => show oField P s x q call env nx H k = oField P s x q call env' nx H k; unfold oField; rw [fst rfl]
  | indexAddr t x i => show oIndexAddr P t x i call env nx H k = oIndexAddr P t x i call env' nx H k; unfold oIndexAddr; rw [fst rfl, snd rfl]
  | index t x i => show oIndex P t x i call env nx H k = oIndex P t x i call env' nx H k; unfold oIndex; rw [fst rfl, snd rfl]
  | lookup t x i ok => show oLookup P t x i ok call env nx H k = oLookup P t x i ok call env' nx H k; unfold oLookup; rw [fst rfl, snd rfl]
  | mapUpdate t m q v => show oMapUpdate P t m q v call env nx H k = oMapUpdate P t m q v call env' nx H k; unfold oMapUpdate; rw [fst rfl, snd rfl, thd rfl]
  | typeAssert x s t ok => show oAssert P x s t ok call env nx H k = oAssert P x s t ok call env' nx H k; unfold oAssert; rw [fst rfl]
  | extract x i => show oExtract x i call env nx H k = oExtract x i call env' nx H k; unfold oExtract; rw [fst rfl]
  | call cl =>
    obtain ⟨callee, args, ts⟩ := cl
    cases callee with
    | value f =>
      show oValue f args.toList call env nx H k = oValue f args.toList call env' nx H k
      have e1 : ev env f = ev env' f := fst rfl
      have e2 : evs env args.toList = evs env' args.toList := evs_same fun t ht => h t ((tmpsOf_cons f _ t).2 (.inr ht))
      unfold oValue; rw [e1, e2]
    | invoke x name =>
      show oInvoke P x name args.toList call env nx H k = oInvoke P x name args.toList call env' nx H k
      have e1 : ev env x = ev env' x := fst rfl
      have e2 : evs env args.toList = evs env' args.toList := evs_same fun t ht => h t ((tmpsOf_cons x _ t).2 (.inr ht))
      unfold oInvoke; rw [e1, e2]
    | builtin b =>
      show oBuiltin P D b args.toList ts.toList call env nx H k = oBuiltin P D b args.toList ts.toList call env' nx H k
      have h : ∀ t ∈ tmpsOf args.toList, look env t = look env' t := h
      generalize args.toList = l at h
      have e2 : evs env l = evs env' l := evs_same h
      have ex : ∀ x ∈ l, ev env x = ev env' x := fun x hx => ev_same fun t ht => h t (by
        simp only [tmpsOf, List.mem_filterMap, List.mem_cons, List.not_mem_nil, or_false] at ht ⊢
        obtain ⟨y, rfl, e⟩ := ht
        exact ⟨y, hx, e⟩)
      have two : ∀ (κ κ' : Operand → Operand → Bool), (∀ x y, l = [x, y] → κ x y = κ' x y) → u2 l κ = u2 l κ' := by
        intro κ κ' hk
        match l with
        | [] => rfl
        | [x] => rfl
        | [x, y] => exact hk x y rfl
        | x :: y :: z :: r => rfl
      have one' : ∀ (κ κ' : Operand → Bool), (∀ x, l = [x] → κ x = κ' x) → u1 l κ = u1 l κ' := by
        intro κ κ' hk
        match l with
        | [] => rfl
        | [x] => exact hk x rfl
        | x :: y :: r => rfl
      unfold oBuiltin
      split
      · unfold bLen; exact one' _ _ fun x hx => by rw [ex x (by rw [hx]; simp)]
      · unfold bAppend; exact two _ _ fun x y hx => by rw [ex x (by rw [hx]; simp), ex y (by rw [hx]; simp)]
      · unfold bCopy; exact two _ _ fun x y hx => by rw [ex x (by rw [hx]; simp), ex y (by rw [hx]; simp)]
      · unfold bDelete; exact two _ _ fun x y hx => by rw [ex x (by rw [hx]; simp), ex y (by rw [hx]; simp)]
      · unfold bMM; rw [e2]
      · unfold bMM; rw [e2]
      · rfl
  | _ => rfl
end
end Go.Proofs.YtnajikpdnccilaaGreat.Pv.M
