/- More words: texts of bytes; slots told anew. -/
import Derived.Test.YtnajikpdnccilaaGreatPvY
set_option linter.unusedVariables false
set_option linter.unusedSimpArgs false
namespace Go.Proofs.YtnajikpdnccilaaGreat.Pv
open Go

def textU (l : List UInt8) : ByteArray := ⟨l.toArray⟩
theorem textU_inj {l m : List UInt8} : textU l = textU m ↔ l = m := by
  constructor
  · intro h; have := congrArg (fun b : ByteArray => b.data.toList) h; simpa [textU] using this
  · intro h; rw [h]
theorem textU_data (a : ByteArray) : textU a.data.toList = a := by cases a; simp [textU]
theorem textU_size (l : List UInt8) : (textU l).size = l.length := by simp [textU, ByteArray.size]
theorem textOf_push (ns : List UInt8) : ∀ (b : ByteArray), (ns.map fun n => (n.toNat : Int)).foldl (fun r n => r.push (UInt8.ofNat n.toNat)) b = ⟨(b.data.toList ++ ns).toArray⟩ := by
  induction ns with
  | nil => intro b; cases b; simp
  | cons x t ih =>
    intro b
    rw [List.map_cons, List.foldl_cons, ih]
    have : UInt8.ofNat ((x.toNat : Int)).toNat = x := by simp
    rw [this]
    cases b; simp [ByteArray.push]
theorem textOf_U (l : List UInt8) : textOf (l.map fun n => (n.toNat : Int)) = textU l := by
  unfold textOf; rw [textOf_push]; rfl
theorem bytesF_U (l : List UInt8) : bytesF (l.map fun n => (n.toNat : Int)) = bytesU l := by simp [bytesF, bytesU]
theorem toList_beq (a b : ByteArray) : (a.toList == b.toList) = decide (a.data.toList = b.data.toList) := by
  rw [ByteArray.toList_eq, ByteArray.toList_eq]
  by_cases h : a.data.toList = b.data.toList
  · simp [h]
  · rw [decide_eq_false h]; simpa using h

theorem le_of_eq {x y : PV} (h : x = y) : PV.le x y := by subst h; exact fun _ _ _ _ _ h => h

section
variable {P : Program} {tab : Tab} {c : Ctx} {nx : Nat} {env : Env} {H : Heap} {K : PV → Nat → Heap → Prop} {t u : Nat} {x y : Operand}

theorem W_eq {code : Code} {Q : Post} {s : Nat} {x y : PV} (he : look env s = some x) (e : x = y) (h : W P c code ((s, y) :: env) nx H Q) : W P c code env nx H Q := W_le he (le_of_eq e) h

theorem s_textU {s e : Nat} {is it ie : TI} {l : List UInt8} (h1 : tab s = some is) (h2 : tab t = some it) (h3 : is.kd = .slice e) (h4 : tab e = some ie) (h5 : ie.kd = .int .u8) (h6 : it.kd = .str) (h7 : Holds env H x 1 (bytesU l))
    (h : K (.f (.v (.string (textU l)))) nx H) : stepOp P tab env nx H K (.convert s t x) := s_text (ns := l.map fun n => (n.toNat : Int)) h1 h2 h3 h4 h5 h6 (by rw [bytesF_U]; exact h7) (by rw [textOf_U]; exact h)
theorem s_eqtext {l m : List UInt8} (h1 : ev env x = some (.f (.v (.string (textU l))))) (h2 : ev env y = some (.f (.v (.string (textU m))))) (h : K (.f (.v (.bool (decide (l = m))))) nx H) : stepOp P tab env nx H K (.binOp .eql t x y u) :=
  s_eqstr h1 h2 (by rw [toList_beq]; exact h)
theorem s_netext {l m : List UInt8} (h1 : ev env x = some (.f (.v (.string (textU l))))) (h2 : ev env y = some (.f (.v (.string (textU m))))) (h : K (.f (.v (.bool (!decide (l = m))))) nx H) : stepOp P tab env nx H K (.binOp .neq t x y u) :=
  s_nestr h1 h2 (by rw [toList_beq]; exact h)
theorem s_bytesU {s e : Nat} {is it ie : TI} {l : List UInt8} (h1 : tab s = some is) (h2 : tab t = some it) (h3 : is.kd = .str) (h4 : it.kd = .slice e) (h5 : tab e = some ie) (h6 : ie.kd = .int .u8) (h7 : ev env x = some (.f (.v (.string (textU l)))))
    (h : K (.f (.sl 1 false (bytesU l))) nx H) : stepOp P tab env nx H K (.convert s t x) := s_bytes h1 h2 h3 h4 h5 h6 h7 (by
      have : charsOf (textU l) = bytesU l := by simp [charsOf, textU, bytesU]
      rw [this]; exact h)

/-! ### Bytes -/
theorem s_lenU {e sz : Nat} {i : TI} {l : List UInt8} (h1 : tab t = some i) (h2 : i.kd = .slice e) (h3 : Holds env H x sz (bytesU l)) (h : K (.f (.v (.int .i64 l.length))) nx H) :
    stepOp P tab env nx H K (.call { callee := .builtin .len, args := #[x], argTypes := #[t] }) := s_len h1 h2 h3 (by rw [bytesU_length]; exact h)
theorem holdsU_sl {sz : Nat} {cl : Bool} {l : List UInt8} (h : ev env x = some (.f (.sl sz cl (bytesU l)))) : Holds env H x sz (bytesU l) := holds_sl h
theorem holdsU_nil {sz : Nat} (h : ev env x = some (.f (.v (.slice none 0 0)))) : Holds env H x sz (bytesU []) := holds_nil h
theorem holdsU_ref {sz n lo : Nat} {hi : Option Nat} {wr : Bool} {m : List UInt8} (h : ev env x = some (.ref n lo hi)) (h2 : look H n = some (.buf wr sz (bytesU m))) : Holds env H x sz (bytesU (view lo hi m)) :=
  holds_ref h h2 (by cases hi <;> simp [view, bytesU_take, bytesU_drop])
theorem s_slice_U {e : Nat} {lo hi : Option Operand} {i ie : TI} {cl : Bool} {l : List UInt8} {a b : Nat} (h1 : tab t = some i) (h2 : i.kd = .slice e) (h3 : tab e = some ie) (hz : ie.size = 1) (h4 : ev env x = some (.f (.sl 1 cl (bytesU l)))) (h5 : bound env lo 0 a)
    (h6 : bound env hi l.length b) (h7 : a ≤ b ∧ b ≤ l.length) (h : K (.f (.sl 1 (cutClip none hi cl) (bytesU ((l.take b).drop a)))) nx H) : stepOp P tab env nx H K (.slice t x lo hi none) :=
  s_slice_sl h1 h2 h3 (by omega) (by rw [hz]; exact h4) h5 (by rw [bytesU_length]; exact h6) (by rw [bytesU_length]; exact h7) (by rw [hz, bytesU_take, bytesU_drop]; exact h)
theorem s_slice_U3 {e : Nat} {p m : Operand} {lo : Option Operand} {i ie : TI} {cl : Bool} {l : List UInt8} {a b : Nat} (h1 : tab t = some i) (h2 : i.kd = .slice e) (h3 : tab e = some ie) (hz : ie.size = 1) (h4 : ev env x = some (.f (.sl 1 cl (bytesU l)))) (h5 : bound env lo 0 a)
    (h6 : bound env (some p) l.length b) (h8 : bound env (some m) 0 b) (h7 : a ≤ b ∧ b ≤ l.length) (h : K (.f (.sl 1 true (bytesU ((l.take b).drop a)))) nx H) : stepOp P tab env nx H K (.slice t x lo (some p) (some m)) :=
  s_slice_sl3 h1 h2 h3 (by omega) (by rw [hz]; exact h4) h5 (by rw [bytesU_length]; exact h6) h8 (by rw [bytesU_length]; exact h7) (by rw [hz, bytesU_take, bytesU_drop]; exact h)
theorem s_ia_U {e : Nat} {ix : Operand} {i ie : TI} {k : IntKind} {q : Int} {cl : Bool} {l : List UInt8} {b : UInt8} (h1 : tab t = some i) (h2 : i.kd = .slice e) (h3 : tab e = some ie) (hz : ie.size = 1) (h4 : ev env ix = some (.f (.v (.int k q)))) (h5 : ev env x = some (.f (.sl 1 cl (bytesU l))))
    (h6 : 0 ≤ q) (h7 : l[q.toNat]? = some b) (h : K (.f (.ro (.v (.int .u8 b.toNat)))) nx H) : stepOp P tab env nx H K (.indexAddr t x ix) := s_ia_sl h1 h2 h3 h4 (by rw [hz]; exact h5) h6 (bytesU_get h7) h
theorem s_ia_refU {e : Nat} {ix : Operand} {i ie : TI} {k : IntKind} {q : Int} {n lo : Nat} {hi : Option Nat} {wr : Bool} {l : List UInt8} (h1 : tab t = some i) (h2 : i.kd = .slice e) (h3 : tab e = some ie) (hz : ie.size = 1) (h4 : ev env ix = some (.f (.v (.int k q)))) (h5 : ev env x = some (.ref n lo hi))
    (h5' : look H n = some (.buf wr 1 (bytesU l))) (h6 : 0 ≤ q) (h7 : q.toNat < (view lo hi l).length) (h : K (.ep n (lo + q.toNat) 0) nx H) : stepOp P tab env nx H K (.indexAddr t x ix) :=
  s_ia_ref h1 h2 h3 h4 h5 (by rw [hz]; exact h5') h6 (by cases hi <;> simpa [view, bytesU_take, bytesU_drop] using h7) h
theorem s_ia_refU0 {e : Nat} {ix : Operand} {i ie : TI} {k : IntKind} {q : Int} {n : Nat} {hi : Option Nat} {wr : Bool} {l : List UInt8} (h1 : tab t = some i) (h2 : i.kd = .slice e) (h3 : tab e = some ie) (hz : ie.size = 1) (h4 : ev env ix = some (.f (.v (.int k q)))) (h5 : ev env x = some (.ref n 0 hi))
    (h5' : look H n = some (.buf wr 1 (bytesU l))) (h6 : 0 ≤ q) (h7 : q.toNat < (view 0 hi l).length) (h : K (.ep n q.toNat 0) nx H) : stepOp P tab env nx H K (.indexAddr t x ix) :=
  s_ia_refU h1 h2 h3 hz h4 h5 h5' h6 h7 (by rw [Nat.zero_add]; exact h)
theorem s_ia_ref0 {e : Nat} {ix : Operand} {i ie : TI} {k : IntKind} {q : Int} {n : Nat} {hi : Option Nat} {wr : Bool} {l : List FV} (h1 : tab t = some i) (h2 : i.kd = .slice e) (h3 : tab e = some ie) (h4 : ev env ix = some (.f (.v (.int k q)))) (h5 : ev env x = some (.ref n 0 hi))
    (h5' : look H n = some (.buf wr ie.size l)) (h6 : 0 ≤ q) (h7 : q.toNat < (view 0 hi l).length) (h : K (.ep n q.toNat 0) nx H) : stepOp P tab env nx H K (.indexAddr t x ix) :=
  s_ia_ref h1 h2 h3 h4 h5 h5' h6 h7 (by rw [Nat.zero_add]; exact h)
theorem s_load_epU {i : TI} {n j : Nat} {wr : Bool} {l : List UInt8} {b : UInt8} (h1 : tab t = some i) (h2 : i.kd.agg = false) (hs : i.size = 1) (h3 : ev env x = some (.ep n j 0)) (h4 : look H n = some (.buf wr 1 (bytesU l))) (h5 : l[j]? = some b)
    (k : K (.f (.v (.int .u8 b.toNat))) nx H) : stepOp P tab env nx H K (.load t x) := s_load_ep1 h1 h2 hs h3 h4 (bytesU_get h5) rfl k
theorem s_storeU {i : TI} {n j : Nat} {l : List UInt8} {b : UInt8} (h1 : tab t = some i) (hs : i.size = 1) (h2 : ev env y = some (.f (.v (.int .u8 b.toNat)))) (h5 : ev env x = some (.ep n j 0)) (h6 : look H n = some (.buf true 1 (bytesU l))) (h7 : j < l.length)
    (k : K (.f (.v undef)) nx (hput H n (.buf true 1 (bytesU (l.set j b))))) : stepOp P tab env nx H K (.store t x y) :=
  s_store_ep (fs := [.v (.int .u8 b.toNat)]) h1 h2 rfl (by rw [hs]; rfl) h5 h6 (bytesU_get (b := l[j]) (by simp [h7])) (by rw [hs]; exact Nat.le_refl _) rfl rfl (by simp) (by
    have : (bytesU l).set j (setCells (.v (.int .u8 (l[j]).toNat)) 0 [.v (.int .u8 b.toNat)]) = bytesU (l.set j b) := bytesU_set l j b
    rw [this]; exact k)
theorem s_buildSliceU {len e : Nat} {parts : Array (Nat × Operand)} {i ie : TI} (l : List UInt8) (h1 : tab t = some i) (h2 : i.kd = .slice e) (h3 : tab e = some ie) (hz : ie.size = 1) (h5 : len ≤ 16777216) (h6 : parts.toList.map (·.1) = List.range len)
    (h7 : evs env (parts.toList.map (·.2)) = some (l.map fun b => .f (.v (.int .u8 b.toNat)))) (h : K (.ref nx 0 none) (nx + 1) ((nx, .buf true 1 (bytesU l)) :: H)) : stepOp P tab env nx H K (.buildSlice t len parts) := by
  have hf : ∀ l : List UInt8, frzs H (l.map fun b => PV.f (.v (.int .u8 b.toNat))) = some (bytesU l, H) := by
    intro l
    induction l with
    | nil => rfl
    | cons a l ih => simp only [List.map_cons, frzs, frz, frz1, ih]; rfl
  refine s_buildSlice h1 h2 h3 (by omega) (by rw [hz, Nat.mul_one]; exact h5) h6 h7 (hf l) ?_ (by rw [hz]; exact h)
  rw [hz]
  simp only [bytesU, List.all_map, List.all_eq_true]
  intro b _; rfl
theorem s_makeSliceU (h0 : ∀ e ie, tab e = some ie → ie.kd.agg = false → ie.size = 1) {e : Nat} {i ie : TI} {k k2 : IntKind} {q r : Int} (h1 : tab t = some i) (h2 : i.kd = .slice e) (h3 : tab e = some ie) (h4 : ie.size = 1 ∧ ie.bytes = 1 ∧ ie.kd = .int .u8 ∧ ie.zero = [.int .u8 0])
    (h5 : ev env x = some (.f (.v (.int k q)))) (h6 : ev env y = some (.f (.v (.int k2 r)))) (h7 : 0 ≤ q ∧ q ≤ r ∧ r ≤ 281474976710656) (h : K (.ref nx 0 none) (nx + 1) ((nx, .buf true 1 (bytesU (List.replicate q.toNat 0))) :: H)) : stepOp P tab env nx H K (.makeSlice t x y) :=
  s_makeSlice h0 h1 h2 h3 (by omega) h5 h6 (by rw [h4.2.1]; refine ⟨h7.1, h7.2.1, ?_, ?_⟩ <;> omega) (by
    rw [h4.1, h4.2.2.1, h4.2.2.2]
    have : (List.replicate q.toNat (FV.v (Value.int .u8 0))) = bytesU (List.replicate q.toNat 0) := bytesU_replicate q.toNat 0
    simp only [Kd.agg, Bool.false_eq_true, if_false, List.headD_cons]
    rw [this]; exact h)
theorem srcU {u e sz : Nat} {iu : TI} {y : Operand} {xs : List UInt8} (h1 : tab u = some iu) (h2 : iu.kd = .slice e) (h : Holds env H y sz (bytesU xs)) : Src tab env H u y sz (bytesU xs) := src_sl h1 h2 h
theorem srcU_str {u : Nat} {iu : TI} {y : Operand} {l : List UInt8} (h1 : tab u = some iu) (h2 : iu.kd = .str) (h : ev env y = some (.f (.v (.string (textU l))))) : Src tab env H u y 1 (bytesU l) := by
  have := src_str (H := H) h1 h2 h
  have e : charsOf (textU l) = bytesU l := by simp [charsOf, textU, bytesU]
  rwa [e] at this
theorem s_append_refU {e n lo : Nat} {wr : Bool} {i ie : TI} {l xs : List UInt8} (h1 : tab t = some i) (h2 : i.kd = .slice e) (h3 : tab e = some ie) (hz : ie.size = 1 ∧ ie.bytes = 1) (h5 : Src tab env H u y 1 (bytesU xs)) (h6 : ev env x = some (.ref n lo none))
    (h7 : look H n = some (.buf wr 1 (bytesU l))) (h8 : l.length + xs.length ≤ 140737488355328) (h : K (.ref nx 0 none) (nx + 1) ((nx, .buf wr 1 (bytesU (l.drop lo ++ xs))) :: drop H n)) :
    stepOp P tab env nx H K (.call { callee := .builtin .append, args := #[x, y], argTypes := #[t, u] }) :=
  s_append_ref h1 h2 h3 (by omega) (by rw [hz.1]; exact h5) h6 (by rw [hz.1]; exact h7) (by rw [hz.2]; simpa using h8) (by rw [hz.1, bytesU_drop, ← bytesU_append]; exact h)
theorem s_append_nilU {e : Nat} {i ie : TI} {xs : List UInt8} (h1 : tab t = some i) (h2 : i.kd = .slice e) (h3 : tab e = some ie) (hz : ie.size = 1 ∧ ie.bytes = 1) (h5 : Src tab env H u y 1 (bytesU xs)) (h6 : ev env x = some (.f (.v (.slice none 0 0))))
    (h8 : xs.length ≤ 140737488355328) (h : K (.ref nx 0 none) (nx + 1) ((nx, .buf true 1 (bytesU xs)) :: H)) :
    stepOp P tab env nx H K (.call { callee := .builtin .append, args := #[x, y], argTypes := #[t, u] }) :=
  s_append_nil h1 h2 h3 (by omega) (by rw [hz.1]; exact h5) h6 (by rw [hz.2]; simpa using h8) (by rw [hz.1]; exact h)
theorem s_append_clipU {e : Nat} {i ie : TI} {l xs : List UInt8} (h1 : tab t = some i) (h2 : i.kd = .slice e) (h3 : tab e = some ie) (hz : ie.size = 1 ∧ ie.bytes = 1) (h5 : Src tab env H u y 1 (bytesU xs)) (h6 : ev env x = some (.f (.sl 1 true (bytesU l))))
    (h8 : l.length + xs.length ≤ 140737488355328) (hx : xs ≠ []) (h : K (.ref nx 0 none) (nx + 1) ((nx, .buf true 1 (bytesU (l ++ xs))) :: H)) :
    stepOp P tab env nx H K (.call { callee := .builtin .append, args := #[x, y], argTypes := #[t, u] }) :=
  s_append_clip h1 h2 h3 (by omega) (by rw [hz.1]; exact h5) (by rw [hz.1]; exact h6) (by rw [hz.2]; simpa using h8) (by simpa [bytesU] using hx) (by rw [hz.1, ← bytesU_append]; exact h)
theorem s_markU {s e n lo : Nat} {hi : Option Nat} {wr : Bool} {is ie : TI} {l : List UInt8} (h1 : tab s = some is) (h3 : is.kd = .slice e) (h4 : tab e = some ie) (h5 : ie.kd = .int .u8) (h6 : ev env x = some (.ref n lo hi)) (h7 : look H n = some (.buf wr 1 (bytesU l)))
    (h8 : view lo hi l ≠ []) (h : K (.f (.sl 1 false (bytesU (view lo hi l)))) nx (drop H n)) : stepOp P tab env nx H K (.convert s s x) := by
  have e : view lo hi (bytesU l) = bytesU (view lo hi l) := by cases hi <;> simp [view, bytesU_take, bytesU_drop]
  exact s_mark h1 h3 h4 h5 h6 h7 (by rw [e]; simpa [bytesU] using h8) (by rw [e]; exact h)
theorem s_convN8 {s : Nat} {is it : TI} {k k2 : IntKind} {n : Nat} (h1 : tab s = some is) (h2 : tab t = some it) (h3 : it.kd = .int .u8) (h4 : is.kd = .int k2) (h5 : ev env x = some (.f (.v (.int k (n : Nat))))) (h : K (.f (.v (.int .u8 (UInt8.ofNat n).toNat))) nx H) :
    stepOp P tab env nx H K (.convert s t x) := s_conv8 (b := UInt8.ofNat n) h1 h2 h3 h4 h5 (by simp) h
theorem s_convN16 {s : Nat} {is it : TI} {k k2 : IntKind} {n : Nat} (h1 : tab s = some is) (h2 : tab t = some it) (h3 : it.kd = .int .u16) (h4 : is.kd = .int k2) (h5 : ev env x = some (.f (.v (.int k (n : Nat))))) (h : K (.f (.v (.int .u16 (UInt16.ofNat n).toNat))) nx H) :
    stepOp P tab env nx H K (.convert s t x) := s_conv16 (b := UInt16.ofNat n) h1 h2 h3 h4 h5 (by simp) h

/-! ### Calls that hand over no names -/
def isF : PV → Bool
  | .f _ => true
  | _ => false
theorem passes_F : ∀ {ps : List PV}, ps.all isF = true → passes [] H ps = (ps, H)
  | [], _ => rfl
  | x :: t, h => by
    simp only [List.all_cons, Bool.and_eq_true] at h
    cases x with
    | f y =>
      simp only [passes, has, has2, has1, if_true]
      rw [passes_F h.2]
    | _ => simp [isF] at h
theorem s_call0 {f : Operand} {args : Array Operand} {ts : Array Nat} {g : Nat} {ps : List PV} {r : PV} (h1 : ev env f = some (.clo (.func g) [])) (h2 : evs env args.toList = some ps) (h3 : ps.all isF = true) (ht : T P g ps 0 [] (Ret r 0 []))
    (hr : has (fun _ => false) r = true) (h : K r nx H) : stepOp P tab env nx H K (.call { callee := .value f, args := args, argTypes := ts }) := by
  refine s_call (ps' := ps) (H' := H) h1 h2 (by rw [allArgs, List.append_nil]; exact passes_F h3) ?_ ht hr h
  rw [List.all_eq_true] at h3 ⊢
  intro x hx
  have := h3 x hx
  cases x <;> simp [isF] at this <;> rfl
end
end Go.Proofs.YtnajikpdnccilaaGreat.Pv
