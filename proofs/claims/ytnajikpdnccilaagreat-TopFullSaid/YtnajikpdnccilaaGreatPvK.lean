/- Slices: cut, appended to, copied. -/
import Derived.Test.YtnajikpdnccilaaGreatPvJ
import Derived.Laws.Append
set_option linter.unusedVariables false
set_option linter.unusedSimpArgs false
namespace Go.Proofs.YtnajikpdnccilaaGreat.Pv
open Go

section
variable {P : Program} {tab : Tab} {c : Ctx} {nx : Nat} {env : Env} {H H' : Heap} {K : PV → Nat → Heap → Prop} {o : Oper}

/-- A bound of a cut: given, or as it is. -/
def bound (env : Env) (x : Option Operand) (d : Nat) (n : Nat) : Prop :=
  match x with
  | none => n = d
  | some op => ∃ k q, ev env op = some (.f (.v (.int k q))) ∧ 0 ≤ q ∧ n = q.toNat

def cutHi {α : Type} : Option α → Option Nat → Nat → Option Nat
  | none, h, _ => h
  | some _, _, x => some x

def cutClip {α : Type} : Option α → Option α → Bool → Bool
  | some _, _, _ => true
  | none, none, cl => cl
  | none, some _, _ => false

/-- The bytes of a text. -/
def charsOf (s : ByteArray) : List FV := s.data.toList.map fun b => .v (.int .u8 b.toNat)

def stepSlice (tab : Tab) (env : Env) (H : Heap) (nx : Nat) (K : PV → Nat → Heap → Prop) (t : Nat) (x : Operand) (lo hi mx : Option Operand) : Prop :=
  ∃ i, tab t = some i ∧
    ((∃ s a b, i.kd = .str ∧ mx = none ∧ ev env x = some (.f (.v (.string s))) ∧ bound env lo 0 a ∧ bound env hi s.size b ∧ a ≤ b ∧ b ≤ s.size ∧ K (.f (.v (.string (s.extract a b)))) nx H) ∨
     (∃ e ie cl l a b, i.kd = .slice e ∧ tab e = some ie ∧ ie.size ≠ 0 ∧ ev env x = some (.f (.sl ie.size cl l)) ∧ bound env lo 0 a ∧ bound env hi l.length b ∧ a ≤ b ∧ b ≤ l.length ∧
        (∀ m, mx = some m → ∃ p, hi = some p ∧ bound env mx 0 b) ∧
        K (.f (.sl ie.size (cutClip mx hi cl) ((l.take b).drop a))) nx H) ∨
     (∃ e ie n lo0 hi0 wr l a b, i.kd = .slice e ∧ tab e = some ie ∧ mx = none ∧ ev env x = some (.ref n lo0 hi0) ∧ look H n = some (.buf wr ie.size l) ∧ bound env lo 0 a ∧
        bound env hi (view lo0 hi0 l).length b ∧ a ≤ b ∧ b ≤ (view lo0 hi0 l).length ∧ K (.ref n (lo0 + a) (cutHi hi hi0 (lo0 + b))) nx H) ∨
     (∃ e ie, i.kd = .slice e ∧ tab e = some ie ∧ ev env x = some (.f (.v (.slice none 0 0))) ∧ bound env lo 0 0 ∧ bound env hi 0 0 ∧ bound env mx 0 0 ∧ (mx = none ∨ hi ≠ none) ∧ K (.f (.v (.slice none 0 0))) nx H))

theorem run_bound {φ : Nat → Phys} {tmps : Array Value} {w : World} (hs : StΦ c nx env H φ tmps w) {x : Operand} {d n y : Nat} {code : BoundsCode} (h : bound env (some x) d n) (hn : n ≤ y) :
    (Instr.sliceBound ((act tmps).eval x) y code).run P w = .ok n w := by
  obtain ⟨k, q, h1, h2, rfl⟩ := h
  rw [(ev_rep hs h1).v_inv]
  exact run_sliceBound w k q y code h2 (by omega)

theorem run_bounds {φ : Nat → Phys} {tmps : Array Value} {w : World} (hs : StΦ c nx env H φ tmps w) {sl : Bool} {len cap a b : Nat} {lo hi : Option Operand} (ha : bound env lo 0 a) (hb : bound env hi len b)
    (hab : a ≤ b) (hbc : b ≤ cap) : (Instr.sliceBounds sl len cap (lo.map (act tmps).eval) (hi.map (act tmps).eval) none).run P w = .ok (a, b, cap) w := by
  cases lo with
  | none =>
    have ha' : a = 0 := ha
    subst ha'
    cases hi with
    | none => have hb' : b = len := hb; subst hb'; simp [Instr.sliceBounds]
    | some q => simp only [Instr.sliceBounds, Option.map_some, Option.map_none, Sem.run_bind, Sem.run_pure, Result.andThen_ok, run_bound hs hb hbc]
  | some p =>
    cases hi with
    | none =>
      have hb' : b = len := hb
      subst hb'
      simp only [Instr.sliceBounds, Option.map_some, Option.map_none, Sem.run_bind, Sem.run_pure, Result.andThen_ok, run_bound hs ha hab]
    | some q => simp only [Instr.sliceBounds, Option.map_some, Option.map_none, Sem.run_bind, Sem.run_pure, Result.andThen_ok, run_bound hs hb hbc, run_bound hs ha hab]

theorem run_bounds3 {φ : Nat → Phys} {tmps : Array Value} {w : World} (hs : StΦ c nx env H φ tmps w) {sl : Bool} {len cap a b d : Nat} {lo : Option Operand} {h m : Operand} (ha : bound env lo 0 a) (hb : bound env (some h) len b)
    (hm : bound env (some m) d b) (hab : a ≤ b) (hbc : b ≤ cap) : (Instr.sliceBounds sl len cap (lo.map (act tmps).eval) (some ((act tmps).eval h)) (some ((act tmps).eval m))).run P w = .ok (a, b, b) w := by
  cases lo with
  | none =>
    have ha' : a = 0 := ha
    subst ha'
    simp only [Instr.sliceBounds, Option.map_none, Sem.run_bind, Sem.run_pure, Result.andThen_ok, run_bound hs hm hbc, run_bound hs hb (Nat.le_refl b)]
  | some p => simp only [Instr.sliceBounds, Option.map_some, Sem.run_bind, Sem.run_pure, Result.andThen_ok, run_bound hs hm hbc, run_bound hs hb (Nat.le_refl b), run_bound hs ha hab]

theorem take_drop_get {α : Type} {l : List α} {a b i : Nat} {x : α} (h : ((l.take b).drop a)[i]? = some x) : l[a + i]? = some x := by
  rw [List.getElem?_drop, List.getElem?_take] at h
  split at h
  · exact h
  · cases h

/-- A part of a slice that nobody writes. -/
theorem RepF.cut {w : World} {S : Nat → Nat → Prop} {sz : Nat} {cl cl' : Bool} {l : List FV} {A : Option Addr} {len cap a b m : Nat} (h : RepF w S (.sl sz cl l) (.slice A len cap)) (hab : a ≤ b) (hb : b ≤ l.length)
    (hbm : b ≤ m) (hm : m ≤ cap) (hcl : cl' = true → m = b) : RepF w S (.sl sz cl' ((l.take b).drop a)) (.slice (if m = a then A else A.map (·.add (a * sz))) (b - a) (m - a)) := by
  have hlen : ((l.take b).drop a).length = b - a := by simp; omega
  have emp : b - a = 0 → m = a → RepF w S (.sl sz cl' ((l.take b).drop a)) (.slice A (b - a) (m - a)) := by
    intro h1 h2
    have : (l.take b).drop a = [] := List.eq_nil_of_length_eq_zero (by rw [hlen, h1])
    rw [this, h1, show m - a = 0 by omega]
    cases A with
    | none => exact .slnil _ _
    | some A => exact .slemp _ _ A
  cases h with
  | slnil =>
    simp at hb
    have : b = 0 := hb
    have : m = 0 := by omega
    have : a = 0 := by omega
    subst this
    rw [if_pos (by omega)]
    exact emp (by omega) (by omega)
  | slemp _ _ A =>
    simp at hb
    have : b = 0 := hb
    have : m = 0 := by omega
    have : a = 0 := by omega
    subst this
    rw [if_pos (by omega)]
    exact emp (by omega) (by omega)
  | sl _ _ _ bb off _ val h1 h2 h3 h4 h5 =>
    by_cases e : m = a
    · rw [if_pos e]; exact emp (by omega) e
    · rw [if_neg e]
      simp only [Option.map_some, add_plain]
      rw [← hlen]
      refine .sl _ _ _ bb (off + a * sz) _ (fun i j => val (a + i) j) (by rw [hlen]; omega) (fun hc => by rw [hlen, hcl hc]) (fun i x hx => h3 _ x (take_drop_get hx)) (fun i x j d hx hd => ?_) (fun i x j d hx hd => h5 _ x j d (take_drop_get hx) hd)
      have := h4 (a + i) x j d (take_drop_get hx) hd
      rw [Nat.add_mul, ← Nat.add_assoc] at this
      exact this

theorem exec_slice {t : Nat} {x : Operand} {lo hi mx : Option Operand} {tmps : Array Value} {w : World} {v r : Value} (ho : o.op = .slice t x lo hi mx)
    (hx : (act tmps).eval x = v) (hrun : (Instr.sliceAt t v (lo.map (act tmps).eval) (hi.map (act tmps).eval) (mx.map (act tmps).eval)).run P w = .ok r w) : (execOp (act tmps).eval o).run P w = .ok (.value r) w := by
  simp only [execOp, ho, hx]
  rw [Sem.run_bind, hrun]; rfl

theorem does_slice (ht : TabOk P tab) {t : Nat} {x : Operand} {lo hi mx : Option Operand} (ho : o.op = .slice t x lo hi mx) (h : stepSlice tab env H nx K t x lo hi mx) : Does P o c nx env H K :=
  Does.pure fun φ tmps w hs => by
    obtain ⟨i, h1, h⟩ := h
    rcases h with ⟨s, a, b, h2, rfl, h3, h4, h5, h6, h7, h8⟩ | ⟨e, ie, cl, l, a, b, h2, h3, h4, h5, h6, h7, h8, h9, h10, h11⟩ | ⟨e, ie, n, lo0, hi0, wr, l, a, b, h2, h3, rfl, h4, h5, h6, h7, h8, h9, h10⟩ | ⟨e, ie, h2, hie0, h3, h4, h5, h6, h7, h8⟩
    · have hu := under_str ht h1 h2
      refine ⟨_, _, exec_slice ho (ev_rep hs h3).v_inv ?_, h8, .f (.v _)⟩
      simp only [Instr.sliceAt, Instr.slice, Option.map_none]
      simp only [Sem.run_bind, run_underlying hu, Result.andThen_ok, Option.isSome_none, Bool.false_eq_true, if_false, Sem.run_pure, run_bounds hs h4 h5 h6 h7]
    · have hu := under_slice ht h1 h2
      have hr := ev_rep hs h5
      generalize hv : (act tmps).eval x = v at hr
      have hval : ∃ A len cap, v = .slice A len cap ∧ len = l.length ∧ l.length ≤ cap ∧ (cl = true → cap = l.length) := by
        cases hr with
        | f hr => cases hr with
          | slnil => exact ⟨_, _, _, rfl, rfl, Nat.le_refl _, fun _ => rfl⟩
          | slemp => exact ⟨_, _, _, rfl, rfl, Nat.le_refl _, fun _ => rfl⟩
          | sl => exact ⟨_, _, _, rfl, rfl, by assumption, by assumption⟩
      obtain ⟨A, len, cap, rfl, hlen, hcap, hclip⟩ := hval
      subst hlen
      cases hr with
      | f hr =>
      cases mx with
      | none =>
        refine ⟨_, _, exec_slice ho hv ?_, h11, .f (hr.cut h8 h9 (m := cap) (by omega) (Nat.le_refl _) fun hc => ?_)⟩
        · simp only [Instr.sliceAt, Instr.slice, Option.map_none]
          simp only [Sem.run_bind, run_underlying hu, Result.andThen_ok, Sem.run_pure, run_bounds hs h6 h7 h8 (show b ≤ cap by omega), run_size ht h3]
        · cases hi with
          | none => have hb : b = l.length := h7; rw [hb]; exact hclip hc
          | some p => simp [cutClip] at hc
      | some m =>
        obtain ⟨p, rfl, hm⟩ := h10 m rfl
        refine ⟨_, _, exec_slice ho hv ?_, h11, .f (hr.cut h8 h9 (m := b) (Nat.le_refl _) (by omega) fun hc => rfl)⟩
        simp only [Instr.sliceAt, Instr.slice, Option.map_some]
        simp only [Sem.run_bind, run_underlying hu, Result.andThen_ok, Sem.run_pure, run_bounds3 hs h6 h7 hm h8 (show b ≤ cap by omega), run_size ht h3]
    · have hu := under_slice ht h1 h2
      have hr := ev_rep hs h4
      generalize hv : (act tmps).eval x = v at hr
      obtain ⟨hnx, e1, e2, e3⟩ := hs.ok.obj n _ h5
      cases hr with
      | @refnil _ hz hlt hnil hlen hh0 =>
        have hl0 : l = [] := by rw [e1] at hlen; exact List.eq_nil_of_length_eq_zero hlen
        subst hl0
        have hv0 : view 0 hi0 ([] : List FV) = [] := by cases hi0 <;> simp [view]
        rw [hv0] at h7 h9
        simp at h9
        subst h9
        have ha0 : a = 0 := by omega
        subst ha0
        have h7' : bound env hi 0 0 := h7
        refine ⟨_, .slice none 0 0, exec_slice ho hv ?_, h10, .refnil hlt hnil hlen ?_⟩
        · simp only [Instr.sliceAt, Instr.slice, Option.map_none]
          simp only [Sem.run_bind, run_underlying hu, Result.andThen_ok, Sem.run_pure, run_bounds hs h6 h7' (Nat.le_refl 0) (Nat.le_refl 0), run_size ht h3]
          simp
        · cases hi with
          | none => exact hh0
          | some p => simp [cutHi]
      | @ref _ _ _ cap A hlt hnil b1 b2 b3 b4 b5 =>
        rcases e3 with ⟨e3, _⟩ | ⟨_, arr, ty, a1, a2, a3, a4, a5⟩
        · rw [hnil] at e3; cases e3
        have hvl : (view lo0 hi0 l).length = hi0.getD (φ n).len - lo0 := by rw [e1] at b2 ⊢; exact view_length b2
        rw [hvl] at h7 h9
        have hnew : (cutHi hi hi0 (lo0 + b)).getD (φ n).len = lo0 + b := by
          cases hi with
          | none => have hb : b = hi0.getD (φ n).len - lo0 := h7; simp only [cutHi]; omega
          | some p => simp [cutHi]
        refine ⟨_, .slice (if cap = a then some A else (some A).map (·.add (a * ie.size))) (b - a) (cap - a), exec_slice ho hv ?_, h10, ?_⟩
        · simp only [Instr.sliceAt, Instr.slice, Option.map_none]
          simp only [Sem.run_bind, run_underlying hu, Result.andThen_ok, Sem.run_pure, run_bounds hs h6 h7 h8 (show b ≤ cap by omega), run_size ht h3]
        · have key : ∀ A', (cap - a ≠ 0 → A' = ⟨(φ n).blk, (φ n).base + (lo0 + a) * (φ n).sz, none⟩) →
              Rep φ nx w (SS c.So φ H) (.ref n (lo0 + a) (cutHi hi hi0 (lo0 + b))) (.slice (some A') (b - a) (cap - a)) := by
            intro A' hA'
            have := Rep.ref (φ := φ) (nx := nx) (w := w) (S := SS c.So φ H) (n := n) (lo := lo0 + a) (hi := cutHi hi hi0 (lo0 + b)) (cap := cap - a) (A := A')
              hlt hnil (by rw [hnew]; omega) (by rw [hnew]; omega) (by omega) b4 hA'
            rw [hnew, show lo0 + b - (lo0 + a) = b - a by omega] at this
            exact this
          by_cases e : cap = a
          · rw [if_pos e]; exact key A fun hne => absurd (by omega) hne
          · rw [if_neg e]
            simp only [Option.map_some]
            refine key _ fun _ => ?_
            have := b5 (by omega)
            subst this
            rw [add_plain, Nat.add_mul, ← Nat.add_assoc, e2]
    · have hu := under_slice ht h1 h2
      have hv := (ev_rep hs h3).v_inv
      have z0 : bound env hi 0 0 := h5
      cases mx with
      | none =>
        refine ⟨_, .slice none 0 0, exec_slice ho hv ?_, h8, .f (.v _)⟩
        simp only [Instr.sliceAt, Instr.slice, Option.map_none]
        simp only [Sem.run_bind, run_underlying hu, Result.andThen_ok, Sem.run_pure, run_bounds hs h4 h5 (Nat.le_refl 0) (Nat.le_refl 0)]
        simp [run_size ht hie0]
      | some m =>
        cases hi with
        | none => rcases h7 with h7 | h7 <;> simp at h7
        | some p =>
        refine ⟨_, .slice none 0 0, exec_slice ho hv ?_, h8, .f (.v _)⟩
        simp only [Instr.sliceAt, Instr.slice, Option.map_some]
        simp only [Sem.run_bind, run_underlying hu, Result.andThen_ok, Sem.run_pure, run_bounds3 hs h4 h5 h6 (Nat.le_refl 0) (Nat.le_refl 0)]
        simp [run_size ht hie0]
end
end Go.Proofs.YtnajikpdnccilaaGreat.Pv
