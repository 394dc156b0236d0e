/- Rows of things that a function tells; numbers that are counts; more words. -/
import Derived.Test.YteedhlgdbankiaaPvZ
set_option linter.unusedVariables false
set_option linter.unusedSimpArgs false
namespace Go.Proofs.Yteedhlgdbankiaa.Pv
open Go

/-! ### What a value is told as -/
abbrev enc8 (b : UInt8) : FV := .v (.int .u8 (b.toNat : Nat))
abbrev enc16 (b : UInt16) : FV := .v (.int .u16 (b.toNat : Nat))
abbrev encI (x : Int) : FV := .v (.int .i64 x)
abbrev encBo (b : Bool) : FV := .v (.bool b)
abbrev encS {α : Type} (sz : Nat) (f : α → FV) (l : List α) : FV := .sl sz false (l.map f)
abbrev encT (l : List UInt8) : FV := .v (.string (textU l))
/-- An int, a count, a bool, a byte, a word, a text; a row. -/
abbrev pI (x : Int) : PV := .f (.v (.int .i64 x))
abbrev pN (x : Nat) : PV := .f (.v (.int .i64 ((x : Nat) : Int)))
abbrev pB (b : Bool) : PV := .f (.v (.bool b))
abbrev p8 (b : UInt8) : PV := .f (.v (.int .u8 (b.toNat : Nat)))
abbrev p16 (b : UInt16) : PV := .f (.v (.int .u16 (b.toNat : Nat)))
abbrev pK (k : IntKind) (x : Int) : PV := .f (.v (.int k x))
abbrev pT (l : List UInt8) : PV := .f (.v (.string (textU l)))
abbrev pS {α : Type} (sz : Nat) (cl : Bool) (f : α → FV) (l : List α) : PV := .f (.sl sz cl (l.map f))
abbrev pNil : PV := .f (.v (.slice none 0 0))
abbrev pNilp : PV := .f (.v (.pointer none))
abbrev oB {α : Type} (wr : Bool) (sz : Nat) (f : α → FV) (l : List α) : Obj := .buf wr sz (l.map f)

theorem view_map {α β : Type} (f : α → β) (lo : Nat) (hi : Option Nat) (l : List α) : view lo hi (l.map f) = (view lo hi l).map f := by cases hi <;> simp [view]
theorem get_of_lt {α : Type} (l : List α) {i : Nat} (h : i < l.length) : ∃ y, l[i]? = some y := ⟨l[i], by simp [h]⟩
theorem get_lt {α : Type} {l : List α} {i : Nat} {y : α} (h : l[i]? = some y) : i < l.length := (List.getElem?_eq_some_iff.1 h).1
theorem mapget {α β : Type} {f : α → β} {l : List α} {i : Nat} {y : α} (h : l[i]? = some y) : (l.map f)[i]? = some (f y) := by simp [h]

/-- A byte, a word of any number. -/
def u8I (a : Int) : UInt8 := UInt8.ofNat (a % 256).toNat
def u16I (a : Int) : UInt16 := UInt16.ofNat (a % 65536).toNat
theorem u8I_toNat (a : Int) : ((u8I a).toNat : Int) = a % 256 := by
  unfold u8I
  have : (UInt8.ofNat (a % 256).toNat).toNat = (a % 256).toNat % 256 := by simp
  rw [this]; omega
theorem u16I_toNat (a : Int) : ((u16I a).toNat : Int) = a % 65536 := by
  unfold u16I
  have : (UInt16.ofNat (a % 65536).toNat).toNat = (a % 65536).toNat % 65536 := by simp
  rw [this]; omega

section
variable {P : Program} {tab : Tab} {c : Ctx} {nx : Nat} {env : Env} {H H' : Heap} {K : PV → Nat → Heap → Prop} {t u : Nat} {x y : Operand} {α : Type} {f : α → FV}

/-! ### Rows -/
theorem hM_sl {sz : Nat} {cl : Bool} {l : List α} (h : ev env x = some (.f (.sl sz cl (l.map f)))) : Holds env H x sz (l.map f) := holds_sl h
theorem hM_nil {sz : Nat} (h : ev env x = some (.f (.v (.slice none 0 0)))) : Holds env H x sz (([] : List α).map f) := holds_nil h
theorem hM_ref {sz n lo : Nat} {hi : Option Nat} {wr : Bool} {m : List α} (h : ev env x = some (.ref n lo hi)) (h2 : look H n = some (.buf wr sz (m.map f))) : Holds env H x sz ((view lo hi m).map f) := holds_ref h h2 (view_map f lo hi m).symm
theorem hM_ref0 {sz n : Nat} {wr : Bool} {m : List α} (h : ev env x = some (.ref n 0 none)) (h2 : look H n = some (.buf wr sz (m.map f))) : Holds env H x sz (m.map f) := holds_ref h h2 (by simp [view])
theorem hM_refl {sz n lo : Nat} {wr : Bool} {m : List α} (h : ev env x = some (.ref n lo none)) (h2 : look H n = some (.buf wr sz (m.map f))) : Holds env H x sz ((m.drop lo).map f) := holds_ref h h2 (by simp [view])

theorem s_lenM {e sz : Nat} {i : TI} {l : List α} (h1 : tab t = some i) (h2 : i.kd = .slice e) (h3 : Holds env H x sz (l.map f)) (h : K (pN l.length) nx H) :
    stepOp P tab env nx H K (.call { callee := .builtin .len, args := #[x], argTypes := #[t] }) := s_len h1 h2 h3 (by rw [List.length_map]; exact h)
theorem s_lenT {i : TI} {l : List UInt8} (h1 : tab t = some i) (h2 : i.kd = .str) (h3 : ev env x = some (.f (.v (.string (textU l))))) (h : K (pN l.length) nx H) :
    stepOp P tab env nx H K (.call { callee := .builtin .len, args := #[x], argTypes := #[t] }) := s_len_str h1 h2 h3 (by rw [textU_size]; exact h)

section
variable {e : Nat} {lo hi : Option Operand} {p m : Operand} {i ie : TI} {cl : Bool} {l : List α} {a b sz : Nat}
theorem s_cutM (h1 : tab t = some i) (h2 : i.kd = .slice e) (h3 : tab e = some ie) (hz : ie.size = sz ∧ sz ≠ 0) (h4 : ev env x = some (.f (.sl sz cl (l.map f)))) (h5 : bound env lo 0 a) (h6 : bound env (some p) l.length b) (h7 : a ≤ b ∧ b ≤ l.length)
    (h : K (pS sz false f ((l.take b).drop a)) nx H) : stepOp P tab env nx H K (.slice t x lo (some p) none) :=
  s_slice_sl h1 h2 h3 (by rw [hz.1]; exact hz.2) (by rw [hz.1]; exact h4) h5 (by rw [List.length_map]; exact h6) (by rw [List.length_map]; exact h7) (by rw [hz.1, ← List.map_take, ← List.map_drop]; exact h)
theorem s_cutM_hi (h1 : tab t = some i) (h2 : i.kd = .slice e) (h3 : tab e = some ie) (hz : ie.size = sz ∧ sz ≠ 0) (h4 : ev env x = some (.f (.sl sz cl (l.map f)))) (h6 : bound env (some p) l.length b) (h7 : b ≤ l.length)
    (h : K (pS sz false f (l.take b)) nx H) : stepOp P tab env nx H K (.slice t x none (some p) none) :=
  s_cutM (a := 0) h1 h2 h3 hz h4 bound_none h6 ⟨Nat.zero_le _, h7⟩ (by rw [List.drop_zero]; exact h)
theorem s_cutM_lo (h1 : tab t = some i) (h2 : i.kd = .slice e) (h3 : tab e = some ie) (hz : ie.size = sz ∧ sz ≠ 0) (h4 : ev env x = some (.f (.sl sz cl (l.map f)))) (h5 : bound env lo 0 a) (h7 : a ≤ l.length)
    (h : K (pS sz cl f (l.drop a)) nx H) : stepOp P tab env nx H K (.slice t x lo none none) :=
  s_slice_sl h1 h2 h3 (by rw [hz.1]; exact hz.2) (by rw [hz.1]; exact h4) h5 (b := l.length) (by rw [List.length_map]; exact bound_none) (by rw [List.length_map]; exact ⟨h7, Nat.le_refl _⟩) (by
    rw [hz.1, List.take_of_length_le (by simp), ← List.map_drop]; exact h)
/-- All of it, with no room behind it. -/
theorem s_clipM (h1 : tab t = some i) (h2 : i.kd = .slice e) (h3 : tab e = some ie) (hz : ie.size = sz ∧ sz ≠ 0) (h4 : ev env x = some (.f (.sl sz cl (l.map f)))) (h6 : bound env (some p) l.length l.length) (h8 : bound env (some m) 0 l.length)
    (h : K (pS sz true f l) nx H) : stepOp P tab env nx H K (.slice t x none (some p) (some m)) :=
  s_slice_sl3 (a := 0) (b := l.length) h1 h2 h3 (by rw [hz.1]; exact hz.2) (by rw [hz.1]; exact h4) bound_none (by rw [List.length_map]; exact h6) h8 ⟨Nat.zero_le _, by rw [List.length_map]; exact Nat.le_refl _⟩ (by
    rw [hz.1, List.take_of_length_le (by simp), List.drop_zero]; exact h)
theorem s_cutR {n lo0 : Nat} {hi0 : Option Nat} {wr : Bool} (h1 : tab t = some i) (h2 : i.kd = .slice e) (h3 : tab e = some ie) (hz : ie.size = sz) (h4 : ev env x = some (.ref n lo0 hi0)) (h5 : look H n = some (.buf wr sz (l.map f)))
    (h6 : bound env lo 0 a) (h7 : bound env hi (view lo0 hi0 l).length b) (h8 : a ≤ b ∧ b ≤ (view lo0 hi0 l).length) (h : K (.ref n (lo0 + a) (cutHi hi hi0 (lo0 + b))) nx H) : stepOp P tab env nx H K (.slice t x lo hi none) :=
  s_slice_ref h1 h2 h3 h4 (by rw [hz]; exact h5) h6 (by rw [view_map, List.length_map]; exact h7) (by rw [view_map, List.length_map]; exact h8) h
theorem s_cutR_lo {n lo0 : Nat} {wr : Bool} (h1 : tab t = some i) (h2 : i.kd = .slice e) (h3 : tab e = some ie) (hz : ie.size = sz) (h4 : ev env x = some (.ref n lo0 none)) (h5 : look H n = some (.buf wr sz (l.map f)))
    (h6 : bound env lo 0 a) (h8 : lo0 + a ≤ l.length) (h : K (.ref n (lo0 + a) none) nx H) : stepOp P tab env nx H K (.slice t x lo none none) :=
  s_cutR (b := l.length - lo0) h1 h2 h3 hz h4 h5 h6 (by simp [bound, view]) (by simp [view]; omega) h
theorem s_cutR_hi {n : Nat} {wr : Bool} (h1 : tab t = some i) (h2 : i.kd = .slice e) (h3 : tab e = some ie) (hz : ie.size = sz) (h4 : ev env x = some (.ref n 0 none)) (h5 : look H n = some (.buf wr sz (l.map f)))
    (h6 : bound env lo 0 a) (h7 : bound env (some p) l.length b) (h8 : a ≤ b ∧ b ≤ l.length) (h : K (.ref n a (some b)) nx H) : stepOp P tab env nx H K (.slice t x lo (some p) none) :=
  s_cutR (hi0 := none) h1 h2 h3 hz h4 h5 h6 (by simpa [view] using h7) (by simpa [view] using h8) (by simpa [cutHi] using h)
end

section
variable {e : Nat} {ix : Operand} {i ie : TI} {k : IntKind} {cl wr : Bool} {l : List α} {b : α} {q n lo sz : Nat} {qi : Int}
theorem s_iaM (h1 : tab t = some i) (h2 : i.kd = .slice e) (h3 : tab e = some ie) (hz : ie.size = sz) (h4 : ev env ix = some (.f (.v (.int k qi)))) (hq : qi = (q : Nat)) (h5 : ev env x = some (.f (.sl sz cl (l.map f)))) (h7 : l[q]? = some b) (h : K (.f (.ro (f b))) nx H) :
    stepOp P tab env nx H K (.indexAddr t x ix) := s_ia_sl h1 h2 h3 h4 (by rw [hz]; exact h5) (by omega) (by rw [hq, Int.toNat_natCast]; exact mapget h7) h
theorem s_iaR (h1 : tab t = some i) (h2 : i.kd = .slice e) (h3 : tab e = some ie) (hz : ie.size = sz) (h4 : ev env ix = some (.f (.v (.int k qi)))) (hq : qi = (q : Nat)) (h5 : ev env x = some (.ref n lo none)) (h5' : look H n = some (.buf wr sz (l.map f)))
    (h7 : lo + q < l.length) (h : K (.ep n (lo + q) 0) nx H) : stepOp P tab env nx H K (.indexAddr t x ix) := by
  have e : qi.toNat = q := by omega
  exact s_ia_ref h1 h2 h3 h4 h5 (by rw [hz]; exact h5') (by omega) (by rw [view_map, List.length_map, e]; simp [view]; omega) (by rw [e]; exact h)
theorem s_iaR0 (h1 : tab t = some i) (h2 : i.kd = .slice e) (h3 : tab e = some ie) (hz : ie.size = sz) (h4 : ev env ix = some (.f (.v (.int k qi)))) (hq : qi = (q : Nat)) (h5 : ev env x = some (.ref n 0 none)) (h5' : look H n = some (.buf wr sz (l.map f)))
    (h7 : q < l.length) (h : K (.ep n q 0) nx H) : stepOp P tab env nx H K (.indexAddr t x ix) := s_iaR h1 h2 h3 hz h4 hq h5 h5' (by omega) (by rw [Nat.zero_add]; exact h)
theorem s_ia_arrN {off m : Nat} (h1 : tab t = some i) (h2 : i.kd = .arr m e) (h3 : tab e = some ie) (h4 : ev env ix = some (.f (.v (.int k qi)))) (hq : qi = (q : Nat)) (h5 : ev env x = some (.ptr n off)) (h7 : q < m) (h : K (.ptr n (off + q * ie.size)) nx H) : stepOp P tab env nx H K (.indexAddr t x ix) :=
  s_ia_arr h1 h2 h3 h4 h5 (by omega) (by omega) (by rw [show qi.toNat = q by omega]; exact h)
theorem s_idxM {s : List UInt8} {b : UInt8} (h1 : tab t = some i) (h2 : i.kd = .str) (h3 : ev env ix = some (.f (.v (.int k qi)))) (hq : qi = (q : Nat)) (h4 : ev env x = some (.f (.v (.string (textU s))))) (h6 : s[q]? = some b) (h : K (p8 b) nx H) :
    stepOp P tab env nx H K (.index t x ix) := s_index h1 h2 h3 h4 (by omega) (by
      have e : qi.toNat = q := by omega
      rw [e]
      have h9 : q < (textU s).size := by rw [textU_size]; exact get_lt h6
      rw [getElem?_pos (textU s) q h9]
      obtain ⟨hl, h⟩ := List.getElem?_eq_some_iff.1 h6
      rw [← h]; rfl) h
/-- An element's cell, an element. -/
theorem s_ldM {j off : Nat} {z : FV} (h1 : tab t = some i) (h2 : i.kd.agg = false) (hs : i.size = 1) (h3 : ev env x = some (.ep n j off)) (h4 : look H n = some (.buf wr sz (l.map f))) (h5 : l[j]? = some b)
    (h6 : (f b).cells[off]? = some z) (h : K (.f z) nx H) : stepOp P tab env nx H K (.load t x) := s_load_ep1 h1 h2 hs h3 h4 (mapget h5) h6 h
theorem s_ldA {j : Nat} {cs : List FV} (h1 : tab t = some i) (h2 : i.kd.agg = true) (h3 : ev env x = some (.ep n j 0)) (h4 : look H n = some (.buf wr sz (l.map f))) (h5 : l[j]? = some b) (h6 : f b = .agg cs) (h7 : cs.length = i.size)
    (h : K (.f (.agg cs)) nx H) : stepOp P tab env nx H K (.load t x) := s_load_ep h1 h2 h3 h4 (mapget h5) (by rw [h6]; simp [FV.cells, h7]) (by
      rw [h6]
      have : ((FV.agg cs).cells.drop 0).take i.size = cs := by simp [FV.cells, ← h7]
      rw [this]; exact h)
theorem s_stM {j off : Nat} {pv : PV} {y0 z : α} {fs : List FV} (h1 : tab t = some i) (h2 : ev env y = some pv) (h3 : pv.storable = true) (h4 : pv.cells.length = i.size) (h5 : ev env x = some (.ep n j off))
    (h6 : look H n = some (.buf true sz (l.map f))) (h7 : l[j]? = some y0) (h8 : off + i.size ≤ (f y0).cells.length) (h9 : allF pv.cells = some fs) (h10 : (fs.all fun f => !f.isAgg) = true) (h11 : fs ≠ []) (hz : setCells (f y0) off fs = f z)
    (h : K (.f (.v undef)) nx (hput H n (oB true sz f (l.set j z)))) : stepOp P tab env nx H K (.store t x y) :=
  s_store_ep h1 h2 h3 h4 h5 h6 (mapget h7) h8 h9 h10 h11 (by rw [hz, ← List.map_set]; exact h)
end

section
variable {e len sz : Nat} {i ie : TI} {l xs : List α} {wr : Bool} {n lo : Nat}
theorem s_mkM {parts : Array (Nat × Operand)} {ps : List PV} (ys : List α) (h1 : tab t = some i) (h2 : i.kd = .slice e) (h3 : tab e = some ie) (hz : ie.size = sz ∧ sz ≠ 0) (h5 : len * sz ≤ 16777216) (h6 : parts.toList.map (·.1) = List.range len)
    (h7 : evs env (parts.toList.map (·.2)) = some ps) (h8 : frzs H ps = some (ys.map f, H')) (h9 : ((ys.map f).all (·.okay sz)) = true) (h : K (.ref nx 0 none) (nx + 1) ((nx, oB true sz f ys) :: H')) : stepOp P tab env nx H K (.buildSlice t len parts) :=
  s_buildSlice h1 h2 h3 (by rw [hz.1]; exact hz.2) (by rw [hz.1]; exact h5) h6 h7 h8 (by rw [hz.1]; exact h9) (by rw [hz.1]; exact h)
theorem s_makeM (h0 : ∀ e ie, tab e = some ie → ie.kd.agg = false → ie.size = 1) {k k2 : IntKind} {q r : Int} {bt : Nat} (z : α) (m : Nat) (hbt : ∀ j, tab e = some j → j.bytes = bt) (h1 : tab t = some i) (h2 : i.kd = .slice e) (h3 : tab e = some ie) (hz : ie.size = sz ∧ sz ≠ 0) (hf : (if ie.kd.agg then FV.agg (ie.zero.map .v) else .v (ie.zero.headD undef)) = f z) (h5 : ev env x = some (.f (.v (.int k q))))
    (h6 : ev env y = some (.f (.v (.int k2 r)))) (hq : q = (m : Nat)) (h7 : q ≤ r ∧ (bt : Int) * r ≤ 281474976710656 ∧ r ≤ 9223372036854775807)
    (h : K (.ref nx 0 none) (nx + 1) ((nx, oB true sz f (List.replicate m z)) :: H)) : stepOp P tab env nx H K (.makeSlice t x y) :=
  s_makeSlice h0 h1 h2 h3 (by rw [hz.1]; exact hz.2) h5 h6 ⟨by omega, h7.1, by rw [hbt _ h3]; exact h7.2.1, h7.2.2⟩ (by
    have e : q.toNat = m := by omega
    rw [hz.1, hf, e, ← List.map_replicate]; exact h)
theorem srcM {iu : TI} {e' : Nat} (h1 : tab u = some iu) (h2 : iu.kd = .slice e') (h : Holds env H y sz (xs.map f)) : Src tab env H u y sz (xs.map f) := src_sl h1 h2 h
theorem srcT {iu : TI} {l : List UInt8} (h1 : tab u = some iu) (h2 : iu.kd = .str) (h : ev env y = some (.f (.v (.string (textU l))))) : Src tab env H u y 1 (l.map enc8) := srcU_str h1 h2 h
theorem s_appR (h1 : tab t = some i) (h2 : i.kd = .slice e) (h3 : tab e = some ie) (hz : ie.size = sz ∧ sz ≠ 0 ∧ ie.bytes ≠ 0) (h5 : Src tab env H u y sz (xs.map f)) (h6 : ev env x = some (.ref n lo none))
    (h7 : look H n = some (.buf wr sz (l.map f))) (h8 : (l.length + xs.length) * ie.bytes ≤ 140737488355328) (h : K (.ref nx 0 none) (nx + 1) ((nx, oB wr sz f (l.drop lo ++ xs)) :: drop H n)) :
    stepOp P tab env nx H K (.call { callee := .builtin .append, args := #[x, y], argTypes := #[t, u] }) :=
  s_append_ref h1 h2 h3 (by rw [hz.1]; exact hz.2) (by rw [hz.1]; exact h5) h6 (by rw [hz.1]; exact h7) (by simpa using h8) (by rw [hz.1, ← List.map_drop, ← List.map_append]; exact h)
theorem s_appR0 (h1 : tab t = some i) (h2 : i.kd = .slice e) (h3 : tab e = some ie) (hz : ie.size = sz ∧ sz ≠ 0 ∧ ie.bytes ≠ 0) (h5 : Src tab env H u y sz (xs.map f)) (h6 : ev env x = some (.ref n 0 none))
    (h7 : look H n = some (.buf wr sz (l.map f))) (h8 : (l.length + xs.length) * ie.bytes ≤ 140737488355328) (h : K (.ref nx 0 none) (nx + 1) ((nx, oB wr sz f (l ++ xs)) :: drop H n)) :
    stepOp P tab env nx H K (.call { callee := .builtin .append, args := #[x, y], argTypes := #[t, u] }) := s_appR h1 h2 h3 hz h5 h6 h7 h8 (by rw [List.drop_zero]; exact h)
theorem s_appN (h1 : tab t = some i) (h2 : i.kd = .slice e) (h3 : tab e = some ie) (hz : ie.size = sz ∧ sz ≠ 0 ∧ ie.bytes ≠ 0) (h5 : Src tab env H u y sz (xs.map f)) (h6 : ev env x = some (.f (.v (.slice none 0 0))))
    (h8 : xs.length * ie.bytes ≤ 140737488355328) (h : K (.ref nx 0 none) (nx + 1) ((nx, oB true sz f xs) :: H)) :
    stepOp P tab env nx H K (.call { callee := .builtin .append, args := #[x, y], argTypes := #[t, u] }) :=
  s_append_nil h1 h2 h3 (by rw [hz.1]; exact hz.2) (by rw [hz.1]; exact h5) h6 (by simpa using h8) (by rw [hz.1]; exact h)
theorem s_appC (h1 : tab t = some i) (h2 : i.kd = .slice e) (h3 : tab e = some ie) (hz : ie.size = sz ∧ sz ≠ 0 ∧ ie.bytes ≠ 0) (h5 : Src tab env H u y sz (xs.map f)) (h6 : ev env x = some (.f (.sl sz true (l.map f))))
    (h8 : (l.length + xs.length) * ie.bytes ≤ 140737488355328) (hx : xs ≠ []) (h : K (.ref nx 0 none) (nx + 1) ((nx, oB true sz f (l ++ xs)) :: H)) :
    stepOp P tab env nx H K (.call { callee := .builtin .append, args := #[x, y], argTypes := #[t, u] }) :=
  s_append_clip h1 h2 h3 (by rw [hz.1]; exact hz.2) (by rw [hz.1]; exact h5) (by rw [hz.1]; exact h6) (by simpa using h8) (by simpa using hx) (by rw [hz.1, ← List.map_append]; exact h)
end

/-! ### Counts -/
section
variable {a b r : Nat} {ai bi : Int}
theorem s_addN (h1 : ev env x = some (.f (.v (.int .i64 ai)))) (h2 : ev env y = some (.f (.v (.int .i64 bi)))) (ha : ai = (a : Nat)) (hb : bi = (b : Nat)) (hr : (a : Int) + b ≤ 9223372036854775807) (h : K (pN (a + b)) nx H) :
    stepOp P tab env nx H K (.binOp .add t x y u) := s_addi h1 h2 (by rw [ha, hb, Int.natCast_add]) (by omega) h
theorem s_subN (h1 : ev env x = some (.f (.v (.int .i64 ai)))) (h2 : ev env y = some (.f (.v (.int .i64 bi)))) (ha : ai = (a : Nat)) (hb : bi = (b : Nat)) (hr : b ≤ a ∧ (a : Int) ≤ 9223372036854775807) (h : K (pN (a - b)) nx H) :
    stepOp P tab env nx H K (.binOp .sub t x y u) := s_subi h1 h2 (by rw [ha, hb, Int.natCast_sub hr.1]) (by omega) h
theorem s_mulN (h1 : ev env x = some (.f (.v (.int .i64 ai)))) (h2 : ev env y = some (.f (.v (.int .i64 bi)))) (ha : ai = (a : Nat)) (hb : bi = (b : Nat)) (hr : a * b ≤ 9223372036854775807) (h : K (pN (a * b)) nx H) :
    stepOp P tab env nx H K (.binOp .mul t x y u) := by
  have e : ai * bi = ((a * b : Nat) : Int) := by rw [ha, hb, Int.natCast_mul]
  exact s_muli (r := ((a * b : Nat) : Int)) h1 h2 e.symm (by rw [e]; omega) h
theorem s_quoN (h1 : ev env x = some (.f (.v (.int .i64 ai)))) (h2 : ev env y = some (.f (.v (.int .i64 bi)))) (ha : ai = (a : Nat)) (hb : bi = (b : Nat)) (hr : 0 < b ∧ (a : Int) ≤ 9223372036854775807) (h : K (pN (a / b)) nx H) :
    stepOp P tab env nx H K (.binOp .quo t x y u) := s_quo h1 h2 (by omega) (by
      have e : ai.tdiv bi = ((a / b : Nat) : Int) := by rw [ha, hb]; rfl
      have : a / b ≤ a := Nat.div_le_self a b
      rw [e]
      generalize a / b = d at *
      rw [wrap_i64 (by omega)]; exact h)
theorem s_remN (h1 : ev env x = some (.f (.v (.int .i64 ai)))) (h2 : ev env y = some (.f (.v (.int .i64 bi)))) (ha : ai = (a : Nat)) (hb : bi = (b : Nat)) (hr : 0 < b) (h : K (pN (a % b)) nx H) :
    stepOp P tab env nx H K (.binOp .rem t x y u) := s_rem h1 h2 (by omega) (by
      have e : ai.tmod bi = ((a % b : Nat) : Int) := by rw [ha, hb]; rfl
      rw [e]; exact h)
theorem s_quoI (h1 : ev env x = some (.f (.v (.int .i64 ai)))) (h2 : ev env y = some (.f (.v (.int .i64 bi)))) (hb : 1 < bi) (ha : -9223372036854775808 ≤ ai ∧ ai ≤ 9223372036854775807) (h : K (pI (ai.tdiv bi)) nx H) :
    stepOp P tab env nx H K (.binOp .quo t x y u) := s_quo h1 h2 (by omega) (by
      have h3 : (ai.tdiv bi).natAbs ≤ ai.natAbs := by rw [Int.natAbs_tdiv]; exact Nat.div_le_self _ _
      rw [wrap_i64 (by
        by_cases hc : ai = -9223372036854775808
        · subst hc
          have : (-9223372036854775808 : Int).tdiv bi = -((9223372036854775808 : Int).tdiv bi) := Int.neg_tdiv ..
          have h5 : 0 ≤ (9223372036854775808 : Int).tdiv bi := Int.tdiv_nonneg (by omega) (by omega)
          omega
        · omega)]
      exact h)
theorem s_maxN {ts : Array Nat} {a b : Nat} (h1 : evs env [x, y] = some [.f (.v (.int .i64 ai)), .f (.v (.int .i64 bi))]) (ha : ai = (a : Nat)) (hb : bi = (b : Nat)) (h : K (pN (max a b)) nx H) :
    stepOp P tab env nx H K (.call { callee := .builtin .max, args := #[x, y], argTypes := ts }) := s_max h1 rfl (by simp only [List.foldl]; rw [ha, hb]; omega) h
theorem s_minN {ts : Array Nat} {a b : Nat} (h1 : evs env [x, y] = some [.f (.v (.int .i64 ai)), .f (.v (.int .i64 bi))]) (ha : ai = (a : Nat)) (hb : bi = (b : Nat)) (h : K (pN (min a b)) nx H) :
    stepOp P tab env nx H K (.call { callee := .builtin .min, args := #[x, y], argTypes := ts }) := s_min h1 rfl (by simp only [List.foldl]; rw [ha, hb]; omega) h
theorem s_maxI {ts : Array Nat} (h1 : evs env [x, y] = some [.f (.v (.int .i64 ai)), .f (.v (.int .i64 bi))]) (h : K (pI (max ai bi)) nx H) :
    stepOp P tab env nx H K (.call { callee := .builtin .max, args := #[x, y], argTypes := ts }) := s_max h1 rfl rfl h
theorem s_minI {ts : Array Nat} (h1 : evs env [x, y] = some [.f (.v (.int .i64 ai)), .f (.v (.int .i64 bi))]) (h : K (pI (min ai bi)) nx H) :
    stepOp P tab env nx H K (.call { callee := .builtin .min, args := #[x, y], argTypes := ts }) := s_min h1 rfl rfl h
end
section
variable {ai : Int} {a : Nat} {k : IntKind}
theorem fdiv_pow (a : Int) (n : Nat) : a.fdiv (2 ^ n) = a / 2 ^ n := Int.fdiv_eq_ediv_of_nonneg _ (Int.le_of_lt (Int.pow_pos (by omega)))
/-- Shifts by a given count. -/
theorem s_shrI (n : Nat) (h1 : ev env x = some (.f (.v (.int .i64 ai)))) (h2 : ev env y = some (.f (.v (.int k (n : Nat))))) (hn : n < 64) (h : K (pI (ai / 2 ^ n)) nx H) : stepOp P tab env nx H K (.binOp .shr t x y u) :=
  s_shr h1 h2 (by omega) (by
    have e : IntKind.i64.bits = 64 := rfl
    rw [Int.toNat_natCast, e, Nat.min_eq_left (by omega), fdiv_pow]; exact h)
theorem s_shrN (n : Nat) (h1 : ev env x = some (.f (.v (.int .i64 ai)))) (ha : ai = (a : Nat)) (h2 : ev env y = some (.f (.v (.int k (n : Nat))))) (hn : n < 64) (h : K (pN (a / 2 ^ n)) nx H) : stepOp P tab env nx H K (.binOp .shr t x y u) :=
  s_shrI n h1 h2 hn (by rw [ha]; have : ((a : Int)) / 2 ^ n = ((a / 2 ^ n : Nat) : Int) := by rw [Int.natCast_ediv, Int.natCast_pow]; rfl
                        rw [this]; exact h)
theorem s_shlN (n : Nat) (h1 : ev env x = some (.f (.v (.int .i64 ai)))) (ha : ai = (a : Nat)) (h2 : ev env y = some (.f (.v (.int k (n : Nat))))) (hn : n < 64) (hr : a * 2 ^ n ≤ 9223372036854775807) (h : K (pN (a * 2 ^ n)) nx H) : stepOp P tab env nx H K (.binOp .shl t x y u) :=
  s_shl h1 h2 (by omega) (by
    have e : IntKind.i64.bits = 64 := rfl
    have e2 : ai * 2 ^ n = ((a * 2 ^ n : Nat) : Int) := by rw [ha, Int.natCast_mul, Int.natCast_pow]; rfl
    rw [Int.toNat_natCast, e, Nat.min_eq_left (by omega), e2, wrap_i64 (by omega)]; exact h)
theorem bits_nat (op : BinOp) (f : Nat → Nat → Nat) (hf : ∀ a b : BitVec 64, (match op with | .and => a &&& b | .or => a ||| b | .xor => a ^^^ b | _ => a &&& ~~~b).toNat = f a.toNat b.toNat) {a b : Nat} (ha : a < 2 ^ 63) (hb : b < 2 ^ 63) (hr : f a b < 2 ^ 63)
    (hop : op = .and ∨ op = .or ∨ op = .xor) : bitI op .i64 a b = ((f a b : Nat) : Int) := by
  have e : IntKind.i64.bits = 64 := rfl
  have ea : (BitVec.ofInt 64 (a : Int)).toNat = a := by simp [BitVec.toNat_ofInt]; omega
  have eb : (BitVec.ofInt 64 (b : Int)).toNat = b := by simp [BitVec.toNat_ofInt]; omega
  have h := hf (BitVec.ofInt 64 (a : Int)) (BitVec.ofInt 64 (b : Int))
  rw [ea, eb] at h
  rcases hop with rfl | rfl | rfl
  · have : bitI .and .i64 a b = IntKind.i64.wrap ((BitVec.ofInt 64 (a : Int) &&& BitVec.ofInt 64 (b : Int)).toNat : Int) := rfl
    rw [this, h, wrap_i64 (by omega)]
  · have : bitI .or .i64 a b = IntKind.i64.wrap ((BitVec.ofInt 64 (a : Int) ||| BitVec.ofInt 64 (b : Int)).toNat : Int) := rfl
    rw [this, h, wrap_i64 (by omega)]
  · have : bitI .xor .i64 a b = IntKind.i64.wrap ((BitVec.ofInt 64 (a : Int) ^^^ BitVec.ofInt 64 (b : Int)).toNat : Int) := rfl
    rw [this, h, wrap_i64 (by omega)]
theorem s_orN {b : Nat} {bi : Int} (h1 : ev env x = some (.f (.v (.int .i64 ai)))) (h2 : ev env y = some (.f (.v (.int .i64 bi)))) (ha : ai = (a : Nat)) (hb : bi = (b : Nat)) (hr : a < 2 ^ 63 ∧ b < 2 ^ 63) (h : K (pN (a ||| b)) nx H) : stepOp P tab env nx H K (.binOp .or t x y u) :=
  s_or h1 h2 (by rw [ha, hb, bits_nat .or (· ||| ·) (fun a b => by simp) hr.1 hr.2 (Nat.or_lt_two_pow hr.1 hr.2) (.inr (.inl rfl))]; exact h)
theorem s_andN {b : Nat} {bi : Int} (h1 : ev env x = some (.f (.v (.int .i64 ai)))) (h2 : ev env y = some (.f (.v (.int .i64 bi)))) (ha : ai = (a : Nat)) (hb : bi = (b : Nat)) (hr : a < 2 ^ 63 ∧ b < 2 ^ 63) (h : K (pN (a &&& b)) nx H) : stepOp P tab env nx H K (.binOp .and t x y u) :=
  s_and h1 h2 (by rw [ha, hb, bits_nat .and (· &&& ·) (fun a b => by simp) hr.1 hr.2 (Nat.lt_of_le_of_lt Nat.and_le_left hr.1) (.inl rfl)]; exact h)
/-- The last bits of any int. -/
theorem and_mask (a : Int) (n : Nat) (hn : n < 63) : bitI .and .i64 a (2 ^ n - 1) = a % 2 ^ n := by
  have e : bitI .and .i64 a (2 ^ n - 1) = IntKind.i64.wrap ((BitVec.ofInt 64 a &&& BitVec.ofInt 64 (2 ^ n - 1)).toNat : Int) := rfl
  have hp : 2 ^ n < 2 ^ 63 := Nat.pow_lt_pow_right (by omega) hn
  have h0 : 0 < 2 ^ n := Nat.two_pow_pos n
  have e1 : ((2 : Int) ^ n - 1) = ((2 ^ n - 1 : Nat) : Int) := by rw [Int.natCast_sub h0, Int.natCast_pow]; rfl
  have e2 : (BitVec.ofInt 64 (2 ^ n - 1)).toNat = 2 ^ n - 1 := by rw [e1]; simp [BitVec.toNat_ofInt]; omega
  have e3 : (BitVec.ofInt 64 a).toNat = (a % 2 ^ 64).toNat := by simp [BitVec.toNat_ofInt]
  rw [e, BitVec.toNat_and, e2, e3, Nat.and_two_pow_sub_one_eq_mod]
  have e4 : (((a % 2 ^ 64).toNat % 2 ^ n : Nat) : Int) = a % 2 ^ n := by
    rw [Int.natCast_emod, Int.toNat_of_nonneg (Int.emod_nonneg _ (by decide)), Int.natCast_pow]
    exact Int.emod_emod_of_dvd a (by exact_mod_cast Nat.pow_dvd_pow 2 (by omega : n ≤ 64))
  rw [e4, wrap_i64]
  have h5 : 0 ≤ a % 2 ^ n := Int.emod_nonneg _ (by have : (0 : Int) < 2 ^ n := Int.pow_pos (by omega)
                                                   omega)
  have h6 : a % 2 ^ n < 2 ^ n := Int.emod_lt_of_pos _ (Int.pow_pos (by omega))
  have h7 : (2 : Int) ^ n < 2 ^ 63 := by exact_mod_cast hp
  omega
theorem s_maskI (n : Nat) {bi : Int} (hn : n < 63) (h1 : ev env x = some (.f (.v (.int .i64 ai)))) (h2 : ev env y = some (.f (.v (.int .i64 bi)))) (hb : bi = 2 ^ n - 1) (h : K (pN (ai % 2 ^ n).toNat) nx H) : stepOp P tab env nx H K (.binOp .and t x y u) :=
  s_and h1 h2 (by
    have h5 : 0 ≤ ai % 2 ^ n := Int.emod_nonneg _ (by have : (0 : Int) < 2 ^ n := Int.pow_pos (by omega)
                                                      omega)
    have e : ((ai % 2 ^ n).toNat : Int) = ai % 2 ^ n := Int.toNat_of_nonneg h5
    rw [hb, and_mask ai n hn, ← e]; exact h)
theorem s_maskN (n : Nat) {bi : Int} (hn : n < 63) (h1 : ev env x = some (.f (.v (.int .i64 ai)))) (h2 : ev env y = some (.f (.v (.int .i64 bi)))) (ha : ai = (a : Nat)) (hb : bi = 2 ^ n - 1) (h : K (pN (a % 2 ^ n)) nx H) : stepOp P tab env nx H K (.binOp .and t x y u) :=
  s_maskI n hn h1 h2 hb (by
    have : (ai % 2 ^ n).toNat = a % 2 ^ n := by
      rw [ha]
      have : ((a : Int)) % 2 ^ n = ((a % 2 ^ n : Nat) : Int) := by rw [Int.natCast_emod, Int.natCast_pow]; rfl
      rw [this, Int.toNat_natCast]
    rw [this]; exact h)
end
section
variable {s : Nat} {is it : TI} {k k2 : IntKind} {ai : Int}
theorem s_cvN {a : Nat} (h1 : tab s = some is) (h2 : tab t = some it) (h3 : it.kd = .int .i64) (h4 : is.kd = .int k2) (h5 : ev env x = some (.f (.v (.int k ai)))) (ha : ai = (a : Nat)) (hb : (a : Int) ≤ 9223372036854775807) (h : K (pN a) nx H) : stepOp P tab env nx H K (.convert s t x) :=
  s_conv_i h1 h2 h3 h4 h5 (by omega) (by rw [ha]; exact h)
theorem s_cv8 (h1 : tab s = some is) (h2 : tab t = some it) (h3 : it.kd = .int .u8) (h4 : is.kd = .int k2) (h5 : ev env x = some (.f (.v (.int k ai)))) (h : K (p8 (u8I ai)) nx H) : stepOp P tab env nx H K (.convert s t x) := s_conv8 h1 h2 h3 h4 h5 (u8I_toNat ai) h
theorem s_cv16 (h1 : tab s = some is) (h2 : tab t = some it) (h3 : it.kd = .int .u16) (h4 : is.kd = .int k2) (h5 : ev env x = some (.f (.v (.int k ai)))) (h : K (p16 (u16I ai)) nx H) : stepOp P tab env nx H K (.convert s t x) := s_conv16 h1 h2 h3 h4 h5 (u16I_toNat ai) h
theorem s_cv8N {a : Nat} (h1 : tab s = some is) (h2 : tab t = some it) (h3 : it.kd = .int .u8) (h4 : is.kd = .int k2) (h5 : ev env x = some (.f (.v (.int k ai)))) (ha : ai = (a : Nat)) (h : K (p8 (UInt8.ofNat a)) nx H) : stepOp P tab env nx H K (.convert s t x) := s_conv8 h1 h2 h3 h4 h5 (by rw [ha]; simp) h
theorem s_cv16N {a : Nat} (h1 : tab s = some is) (h2 : tab t = some it) (h3 : it.kd = .int .u16) (h4 : is.kd = .int k2) (h5 : ev env x = some (.f (.v (.int k ai)))) (ha : ai = (a : Nat)) (h : K (p16 (UInt16.ofNat a)) nx H) : stepOp P tab env nx H K (.convert s t x) := s_conv16 h1 h2 h3 h4 h5 (by rw [ha]; simp) h
theorem s_cvT {e : Nat} {is it ie : TI} {l : List UInt8} (h1 : tab s = some is) (h2 : tab t = some it) (h3 : is.kd = .slice e) (h4 : tab e = some ie) (h5 : ie.kd = .int .u8) (h6 : it.kd = .str) (h7 : Holds env H x 1 (l.map enc8))
    (h : K (pT l) nx H) : stepOp P tab env nx H K (.convert s t x) := s_textU h1 h2 h3 h4 h5 h6 h7 h
theorem s_cvB {e : Nat} {is it ie : TI} {l : List UInt8} (h1 : tab s = some is) (h2 : tab t = some it) (h3 : is.kd = .str) (h4 : it.kd = .slice e) (h5 : tab e = some ie) (h6 : ie.kd = .int .u8) (h7 : ev env x = some (.f (.v (.string (textU l)))))
    (h : K (pS 1 false enc8 l) nx H) : stepOp P tab env nx H K (.convert s t x) := s_bytesU h1 h2 h3 h4 h5 h6 h7 h
end
/-- Shifts of bytes. -/
theorem s_shr8 {a : UInt8} (n : Nat) {k : IntKind} {q : Int} (h1 : ev env x = some (.f (.v (.int .u8 a.toNat)))) (h2 : ev env y = some (.f (.v (.int k q)))) (hq : q = (n : Nat)) (hn : n < 8) (h : K (p8 (a >>> UInt8.ofNat n)) nx H) : stepOp P tab env nx H K (.binOp .shr t x y u) :=
  s_shr h1 h2 (by omega) (by
    have e : IntKind.u8.bits = 8 := rfl
    have e2 : q.toNat = n := by omega
    rw [e2, e, Nat.min_eq_left (by omega), fdiv_pow]
    have : (a >>> UInt8.ofNat n).toNat = a.toNat / 2 ^ n := by
      rw [UInt8.toNat_shiftRight, Nat.shiftRight_eq_div_pow]
      congr 2
      simp; omega
    have e3 : ((a.toNat : Int)) / 2 ^ n = (((a >>> UInt8.ofNat n).toNat : Nat) : Int) := by rw [this, Int.natCast_ediv, Int.natCast_pow]; rfl
    rw [e3]; exact h)
theorem s_shl8 {a : UInt8} (n : Nat) {k : IntKind} {q : Int} (h1 : ev env x = some (.f (.v (.int .u8 a.toNat)))) (h2 : ev env y = some (.f (.v (.int k q)))) (hq : q = (n : Nat)) (hn : n < 8) (h : K (p8 (a <<< UInt8.ofNat n)) nx H) : stepOp P tab env nx H K (.binOp .shl t x y u) :=
  s_shl h1 h2 (by omega) (by
    have e : IntKind.u8.bits = 8 := rfl
    have e2 : q.toNat = n := by omega
    rw [e2, e, Nat.min_eq_left (by omega), wrap_u8_mod]
    have : (a <<< UInt8.ofNat n).toNat = a.toNat * 2 ^ n % 256 := by
      rw [UInt8.toNat_shiftLeft, Nat.shiftLeft_eq]
      have h1 : (UInt8.ofNat n).toNat % 8 = n := by simp; omega
      rw [h1]
    have e3 : ((a.toNat : Int)) * 2 ^ n % 256 = (((a <<< UInt8.ofNat n).toNat : Nat) : Int) := by rw [this, Int.natCast_emod, Int.natCast_mul, Int.natCast_pow]; rfl
    rw [e3]; exact h)
theorem s_cvK {s : Nat} {is it : TI} {k k' k2 : IntKind} {a : Int} (h1 : tab s = some is) (h2 : tab t = some it) (h3 : it.kd = .int k) (h4 : is.kd = .int k2) (h5 : ev env x = some (.f (.v (.int k' a)))) (hk : k.signed = false) (ha : 0 ≤ a ∧ a < 2 ^ k.bits) (h : K (pK k a) nx H) :
    stepOp P tab env nx H K (.convert s t x) := s_conv_id h1 h2 h3 h4 h5 (by
      simp only [IntKind.wrap, hk, Bool.false_and, Bool.false_eq_true, if_false]
      exact Int.emod_eq_of_lt ha.1 ha.2) h
end

/-! ### Slots, cells, memory told anew -/
section
variable {P : Program} {tab : Tab} {c : Ctx} {nx : Nat} {env : Env} {H H' : Heap} {code : Code} {Q : Post}
theorem W_H (e : H = H') (h : W P c code env nx H' Q) : W P c code env nx H Q := by rw [e]; exact h
def SubE : Env → Env → Prop
  | [], _ => True
  | (k, p) :: t, e => look e k = some p ∧ SubE t e
theorem SubE.get : ∀ {a b : Env}, SubE a b → ∀ k p, look a k = some p → look b k = some p
  | [], _, _, k, p, h => by simp [look] at h
  | (q, x) :: t, b, hs, k, p, h => by
    simp only [look] at h
    split at h
    · rename_i e; subst e; cases h; exact hs.1
    · exact SubE.get hs.2 k p h
/-- Fewer slots. -/
theorem W_env (E : Env) (he : SubE E env) (h : W P c code E nx H Q) : W P c code env nx H Q := fun φ tmps w hs => h φ tmps w (hs.subEnv he.get)
theorem W_set (E : Env) (H' : Heap) (n : Nat) (he : SubE E env) (hH : H = H') (hn : nx = n) (h : W P c code E n H' Q) : W P c code env nx H Q := by subst hn; rw [hH]; exact W_env E he h
/-- The cells of a thing of one's own are told otherwise. -/
theorem Ok.leCells {φ : Nat → Phys} {So : Nat → Nat → Prop} {w : World} {n : Nat} {cs ds : List PV} (h : Ok φ nx So H w) (hl : look H n = some (.obj cs)) (hlen : cs.length = ds.length)
    (hle : ∀ (i : Nat) x y, cs[i]? = some x → ds[i]? = some y → ∀ v, Rep φ nx w (SS So φ H) x v → Rep φ nx w (SS So φ H) y v) : Ok φ nx So (hput H n (.obj ds)) w := by
  have hlk : ∀ m o, look (hput H n (.obj ds)) m = some o → (m = n ∧ o = .obj ds) ∨ (m ≠ n ∧ look H m = some o) := by
    intro m o hm
    by_cases e : n = m
    · subst e; rw [look_hput_same] at hm; cases hm; exact .inl ⟨rfl, rfl⟩
    · rw [look_hput_ne _ _ e] at hm; exact .inr ⟨fun q => e q.symm, hm⟩
  have hown : ∀ b off, Own φ (hput H n (.obj ds)) b off ↔ Own φ H b off := by
    intro b off
    constructor
    · rintro ⟨m, o, h1, h2, h3, h4⟩
      rcases hlk m o h1 with ⟨rfl, rfl⟩ | ⟨_, h1⟩
      · exact ⟨m, _, hl, h2, h3, Nat.zero_le _⟩
      · exact ⟨m, o, h1, h2, h3, h4⟩
    · rintro ⟨m, o, h1, h2, h3, h4⟩
      by_cases e : n = m
      · subst e; exact ⟨n, _, look_hput_same _ _ _, h2, h3, Nat.zero_le _⟩
      · exact ⟨m, o, by rw [look_hput_ne _ _ e]; exact h1, h2, h3, h4⟩
  have hSS : SS So φ (hput H n (.obj ds)) = SS So φ H := by
    funext b off; apply propext
    constructor
    · rintro (a | a)
      · exact .inl a
      · exact .inr ((hown b off).1 a)
    · rintro (a | a)
      · exact .inl a
      · exact .inr ((hown b off).2 a)
  refine ⟨fun m o hm => ?_, fun m k o o' h1 h2 => ?_, fun m o hm => ?_⟩
  · rcases hlk m o hm with ⟨rfl, rfl⟩ | ⟨_, h1⟩
    · obtain ⟨a1, a2, arr, ty, a3, a4, a5⟩ := h.obj m _ hl
      refine ⟨a1, a2, arr, ty, a3, by rw [a4, hlen], fun i y hy => ?_⟩
      have hi : i < cs.length := by rw [hlen]; exact (List.getElem?_eq_some_iff.1 hy).1
      obtain ⟨u, b1, b2, b3⟩ := a5 i cs[i] (by simp [hi])
      rw [hSS]
      exact ⟨u, b1, b2, hle i _ y (by simp [hi]) hy u b3⟩
    · rw [hSS]; exact h.obj m o h1
  · rcases hlk m o h1 with ⟨e1, rfl⟩ | ⟨_, g1⟩ <;> rcases hlk k o' h2 with ⟨e2, rfl⟩ | ⟨_, g2⟩
    · intro e; exact absurd (e1.trans e2.symm) e
    · rw [e1]; exact h.dis n k _ o' hl g2
    · rw [e2]; exact h.dis m n o _ g1 hl
    · exact h.dis m k o o' g1 g2
  · rcases hlk m o hm with ⟨rfl, rfl⟩ | ⟨_, h1⟩
    · exact h.out m _ hl
    · exact h.out m o h1
theorem own_hput {φ : Nat → Phys} {n : Nat} {cs ds : List PV} (hl : look H n = some (.obj cs)) : Own φ (hput H n (.obj ds)) = Own φ H := by
  funext b off; apply propext
  constructor
  · rintro ⟨m, o, h1, h2, h3, h4⟩
    by_cases e : n = m
    · subst e; exact ⟨n, _, hl, h2, h3, Nat.zero_le _⟩
    · rw [look_hput_ne _ _ e] at h1; exact ⟨m, o, h1, h2, h3, h4⟩
  · rintro ⟨m, o, h1, h2, h3, h4⟩
    by_cases e : n = m
    · subst e; exact ⟨n, _, look_hput_same _ _ _, h2, h3, Nat.zero_le _⟩
    · exact ⟨m, o, by rw [look_hput_ne _ _ e]; exact h1, h2, h3, h4⟩
theorem StΦ.leCells {φ : Nat → Phys} {tmps : Array Value} {w : World} {n : Nat} {cs ds : List PV} (h : StΦ c nx env H φ tmps w) (hl : look H n = some (.obj cs)) (hlen : cs.length = ds.length)
    (hle : ∀ (i : Nat) x y, cs[i]? = some x → ds[i]? = some y → ∀ v, Rep φ nx w (SS c.So φ H) x v → Rep φ nx w (SS c.So φ H) y v) : StΦ c nx env (hput H n (.obj ds)) φ tmps w := by
  have hSS : SS c.So φ (hput H n (.obj ds)) = SS c.So φ H := by rw [SS_eq, SS_eq, own_hput hl]
  exact ⟨h.ok.leCells hl hlen hle, by rw [hSS]; exact h.env, by rw [own_hput hl]; exact h.ext, h.keep, h.size⟩
/-- A cell is told otherwise. -/
theorem W_leC {n j : Nat} {cs : List PV} {x y : PV} (hl : look H n = some (.obj cs)) (hx : cs[j]? = some x) (hle : PV.le x y) (h : W P c code env nx (hput H n (.obj (cs.set j y))) Q) : W P c code env nx H Q := fun φ tmps w hs =>
  h φ tmps w (hs.leCells hl (by simp) fun i a b ha hb v hr => by
    by_cases e : j = i
    · subst e
      rw [hx] at ha; cases ha
      have hj := (List.getElem?_eq_some_iff.1 hx).1
      simp [hj] at hb; subst hb
      exact hle _ _ _ _ _ hr
    · rw [List.getElem?_set_ne e, ha] at hb; cases hb; exact hr)
/-- A cell's slice is written no more. -/
theorem W_frzC {n j m lo sz : Nat} {hi : Option Nat} {wr : Bool} {l : List FV} {cs : List PV} (hnm : (m == n) = false) (hl : look H n = some (.obj cs)) (hx : cs[j]? = some (.ref m lo hi)) (hb : look H m = some (.buf wr sz l))
    (h : W P c code env nx (hput (hput H m (.buf false sz l)) n (.obj (cs.set j (.f (.sl sz false (view lo hi l)))))) Q) : W P c code env nx H Q := fun φ tmps w hs => by
  have hne : m ≠ n := by simpa using hnm
  have h1 := hs.freeze hb
  refine h φ tmps w (h1.leCells (by rw [look_hput_ne _ _ hne]; exact hl) (by simp) fun i a b ha hb2 v hr => ?_)
  by_cases e : j = i
  · subst e
    rw [hx] at ha; cases ha
    have hj := (List.getElem?_eq_some_iff.1 hx).1
    simp [hj] at hb2; subst hb2
    exact .f (h1.frozen_ref (look_hput_same _ _ _) hr)
  · rw [List.getElem?_set_ne e, ha] at hb2; cases hb2; exact hr
/-- A cell's nil slice gets a name. -/
theorem W_adoptC {n j sz : Nat} {cs : List PV} (hn : (nx == n) = false) (hl : look H n = some (.obj cs)) (hx : cs[j]? = some (.f (.v (.slice none 0 0)))) (h : W P c code env (nx + 1) (hput ((nx, .buf true sz []) :: H) n (.obj (cs.set j (.ref nx 0 none)))) Q) : W P c code env nx H Q := fun φ tmps w hs => by
  have h1 := hs.nilbuf true sz
  have hne : nx ≠ n := by simpa using hn
  refine h _ tmps w (h1.leCells (by rw [look_cons_ne _ _ hne]; exact hl) (by simp) fun i a b ha hb2 v hr => ?_)
  by_cases e : j = i
  · subst e
    rw [hx] at ha; cases ha
    have hj := (List.getElem?_eq_some_iff.1 hx).1
    simp [hj] at hb2; subst hb2
    rw [hr.v_inv]
    exact .refnil (Nat.lt_succ_self _) (by rw [upd_same]) (by rw [upd_same]) rfl
  · rw [List.getElem?_set_ne e, ha] at hb2; cases hb2; exact hr
/-- What is no more needed is let go. -/
theorem le_refl (x : PV) : PV.le x x := fun _ _ _ _ _ h => h
theorem le_nilM {α : Type} {f : α → FV} (sz : Nat) (cl : Bool) : PV.le pNil (pS sz cl f []) := le_nil sz cl
def LeL : List PV → List PV → Prop
  | [], [] => True
  | x :: s, y :: t => PV.le x y ∧ LeL s t
  | _, _ => False
theorem LeL.get : ∀ {a b : List PV}, LeL a b → a.length = b.length ∧ ∀ (i : Nat) x y, a[i]? = some x → b[i]? = some y → PV.le x y
  | [], [], _ => ⟨rfl, fun i x y h => by simp at h⟩
  | [], _ :: _, h => h.elim
  | _ :: _, [], h => h.elim
  | x :: s, y :: t, h => by
    obtain ⟨k1, k2⟩ := LeL.get h.2
    refine ⟨by simp [k1], fun i a b ha hb => ?_⟩
    cases i with
    | zero => simp at ha hb; subst ha; subst hb; exact h.1
    | succ i => exact k2 i a b (by simpa using ha) (by simpa using hb)
/-- A contract, for arguments that may be told as these. -/
theorem T.leL {g : Nat} {args args' : List PV} {k : Nat} {R : PV → Nat → Heap → Prop} (hl : LeL args args') (h : T P g args' k H R) : T P g args k H R := h.le hl.get.1 hl.get.2
theorem T.post {g : Nat} {args : List PV} {k : Nat} {R R' : PV → Nat → Heap → Prop} (h : T P g args k H R) (hr : ∀ a b d, R a b d → R' a b d) : T P g args k H R' := h.mono fun a b d k => hr a b d k

/-- At a function's end: what goes back, by names of the caller's counting. -/
theorem fin_names {rs : List ResultVar} {k nx1 : Nat} {R : PV → Nat → Heap → Prop} {xs : List PV} {r : PV} {H1 : Heap} (ps : List (Nat × Nat)) (h : retL tab env H rs xs) (hp : packR xs = r) (h1 : pairsOk k nx1 ps = true) (h2 : SubHeap ps H1 H) (h3 : k ≤ nx1) (h4 : has (hasP ps) r = true)
    (hR : R (ren (tauP ps) r) nx1 H1) : FinP tab rs k R .ret env nx H := fin_ret ⟨xs, ps, nx1, H1, h, h1, h2, h3, by rw [hp]; exact h4, by rw [hp]; exact hR⟩
end
end Go.Proofs.Yteedhlgdbankiaa.Pv
