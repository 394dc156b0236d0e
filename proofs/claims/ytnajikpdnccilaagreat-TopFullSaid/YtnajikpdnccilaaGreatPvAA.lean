/- From a law's arguments, as the row has them, to abstract values; from a contract to the row's walk. -/
import Derived.Test.YtnajikpdnccilaaGreatPvZ
import Derived.ChangeArms
import Derived.ChangeSlices
import Derived.SizedLaws
import Derived.Below
set_option linter.unusedVariables false
set_option linter.unusedSimpArgs false
namespace Go.Proofs.YtnajikpdnccilaaGreat.Pv
open Go

abbrev Noone : Nat → Nat → Prop := fun _ _ => False

/-- What the cells of a value of this type are told as: read with all that may lie behind. -/
def Reads (P : Program) (t : TypeId) (α : Type) (f : α → FV) (R : (H : Type) → α → DataW H → Prop) : Prop :=
  ∀ (H : Type) (enc : TypeId × Value → H) (w : World) (base : Nat) (held : Bool) (fuel : Nat) (cs : List Value) (d : DataW H) (ps : List MemPlace), DataW.trod enc P w base (fun _ => true) held fuel t cs = some (d, ps) →
    ∃ a, R H a d ∧ (f a).cells.length = cs.length ∧ ∀ (j : Nat) c u, (f a).cells[j]? = some c → cs[j]? = some u → RepF w Noone c u ∧ one u = true

theorem reads_int {P : Program} {t : TypeId} {k : IntKind} (ht : P.underlying t = some (.int k)) : Reads P t { n : Int // (Lit.int k n).wf = true } (fun n => .v (.int k n.1)) (fun _ n d => d = .lit (.int k n.1)) := by
  intro H enc w base held fuel cs d ps h
  obtain ⟨n, rfl, hx, hw⟩ := DataW.trod_int ht h
  cases hx
  refine ⟨⟨n, hw⟩, rfl, rfl, fun j c u hc hu => ?_⟩
  cases j with
  | zero => simp [FV.cells] at hc hu; subst hc; subst hu; exact ⟨.v _, rfl⟩
  | succ j => simp [FV.cells] at hc
theorem wf_u8 {n : Int} (h : (Lit.int .u8 n).wf = true) : 0 ≤ n ∧ n < 256 := by
  simp [Lit.wf, IntKind.min, IntKind.max, IntKind.signed, IntKind.bits] at h
  omega
theorem reads_u8 {P : Program} {t : TypeId} (ht : P.underlying t = some (.int .u8)) : Reads P t UInt8 (fun b => .v (.int .u8 b.toNat)) (fun _ b d => d = .lit (.int .u8 b.toNat)) := by
  intro H enc w base held fuel cs d ps h
  obtain ⟨⟨n, hw⟩, h1, h2, h3⟩ := reads_int ht H enc w base held fuel cs d ps h
  have hr := wf_u8 hw
  have e : (((UInt8.ofNat n.toNat).toNat : Nat) : Int) = n := by
    simp; omega
  refine ⟨UInt8.ofNat n.toNat, ?_, ?_, ?_⟩
  · simp only [e]; exact h1
  · simp only [e]; exact h2
  · simp only [e]; exact h3
theorem reads_bool {P : Program} {t : TypeId} (ht : P.underlying t = some .bool) : Reads P t Bool (fun b => .v (.bool b)) (fun _ b d => d = .lit (.bool b)) := by
  intro H enc w base held fuel cs d ps h
  obtain ⟨n, rfl, hx⟩ := DataW.trod_bool ht h
  cases hx
  refine ⟨n, rfl, rfl, fun j c u hc hu => ?_⟩
  cases j with
  | zero => simp [FV.cells] at hc hu; subst hc; subst hu; exact ⟨.v _, rfl⟩
  | succ j => simp [FV.cells] at hc
theorem reads_str {P : Program} {t : TypeId} (ht : P.underlying t = some .string) : Reads P t (List UInt8) (fun l => .v (.string (textU l))) (fun _ l d => d = .lit (.string l)) := by
  intro H enc w base held fuel cs d ps h
  obtain ⟨s, rfl, hx, _⟩ := DataW.trod_string ht h
  cases hx
  refine ⟨s.data.toList, rfl, rfl, fun j c u hc hu => ?_⟩
  simp only [textU_data] at hc
  cases j with
  | zero => simp [FV.cells] at hc hu; subst hc; subst hu; exact ⟨.v _, rfl⟩
  | succ j => simp [FV.cells] at hc

/-- A slice of what can be read. -/
def sliceR {α : Type} (R : (H : Type) → α → DataW H → Prop) (H : Type) (l : List α) (d : DataW H) : Prop :=
  (d = .nil ∧ l = []) ∨ ∃ es sp, d = .slice es sp ∧ es.length = l.length ∧ ∀ (i : Nat) a e, l[i]? = some a → es[i]? = some e → R H a e

theorem reads_slice {P : Program} {t e : TypeId} {α : Type} {f : α → FV} {R : (H : Type) → α → DataW H → Prop} (ht : P.underlying t = some (.slice e)) (he : Reads P e α f R) (n : Nat) (hn : P.cellsOf e = n) (hpos : 0 < n) :
    Reads P t (List α) (fun l => .sl n false (l.map f)) (sliceR R) := by
  intro H enc w base held fuel cs d ps h
  subst hn
  rcases DataW.trod_slice ht h with ⟨rfl, hx⟩ | ⟨a, len, cap, elems, rest, m, rfl, rfl, hx, hb, hl, hm, hlen, hel, hsp, _⟩
  · cases hx
    refine ⟨[], .inl ⟨rfl, rfl⟩, rfl, fun j c u hc hu => ?_⟩
    cases j with
    | zero => simp [FV.cells] at hc hu; subst hc; subst hu; exact ⟨.slnil _ _, rfl⟩
    | succ j => simp [FV.cells] at hc
  · cases hx
    -- each element
    have hlt : ∀ i, i < len → ∃ (cs : List Value) (x : DataW H × List MemPlace), w.cells? base (a.add (i * P.cellsOf e)) (P.cellsOf e) = some cs ∧ DataW.trod enc P w base (fun _ => true) held m e cs = some x ∧ elems[i]? = some x := by
      intro i hi
      have h1 := hel i hi
      have h2 : elems[i]? = some (elems[i]'(by omega)) := by simp [hlen, hi]
      rw [h2, Option.bind_eq_some_iff] at h1
      obtain ⟨cs, c1, c2⟩ := h1
      exact ⟨cs, _, c1, c2, h2⟩
    have hval : ∀ i, i < len → ∃ (cs : List Value) (d : DataW H) (al : α), w.cells? base (a.add (i * P.cellsOf e)) (P.cellsOf e) = some cs ∧ (elems.map (·.1))[i]? = some d ∧ R H al d ∧ (f al).cells.length = cs.length ∧
        ∀ (j : Nat) c u, (f al).cells[j]? = some c → cs[j]? = some u → RepF w Noone c u ∧ one u = true := by
      intro i hi
      obtain ⟨cs, ⟨d, ps⟩, c1, c2, c3⟩ := hlt i hi
      obtain ⟨al, a1, a2, a3⟩ := he H enc w base held m cs d ps c2
      exact ⟨cs, d, al, c1, by simp [c3], a1, a2, a3⟩
    -- the list
    have hlist : ∀ k, k ≤ len → ∃ l : List α, l.length = k ∧ ∀ (i : Nat) al, l[i]? = some al → ∃ (cs : List Value) (d : DataW H), w.cells? base (a.add (i * P.cellsOf e)) (P.cellsOf e) = some cs ∧ (elems.map (·.1))[i]? = some d ∧ R H al d ∧ (f al).cells.length = cs.length ∧
        ∀ (j : Nat) c u, (f al).cells[j]? = some c → cs[j]? = some u → RepF w Noone c u ∧ one u = true := by
      intro k
      induction k with
      | zero => intro _; exact ⟨[], rfl, fun i al h => by simp at h⟩
      | succ k ih =>
        intro hk
        obtain ⟨l, l1, l2⟩ := ih (by omega)
        obtain ⟨cs, d, al, c1, c2, c3, c4, c5⟩ := hval k (by omega)
        refine ⟨l ++ [al], by simp [l1], fun i al' h => ?_⟩
        rw [List.getElem?_append] at h
        split at h
        · exact l2 i al' h
        · rename_i hge
          have : i = k := by
            have := (List.getElem?_eq_some_iff.1 h).1
            simp at this; omega
          subst this
          simp [l1] at h
          subst h
          exact ⟨cs, d, c1, c2, c3, c4, c5⟩
    obtain ⟨l, l1, l2⟩ := hlist len (Nat.le_refl _)
    refine ⟨l, .inr ⟨_, _, rfl, by simp [l1, hlen], fun i al d' h1 h2 => ?_⟩, rfl, fun j c u hc hu => ?_⟩
    · obtain ⟨cs, d, _, g2, g3, _⟩ := l2 i al h1
      rw [h2] at g2; cases g2; exact g3
    · cases j with
      | succ j => simp [FV.cells] at hc
      | zero =>
        simp [FV.cells] at hc hu
        subst hc; subst hu
        refine ⟨?_, rfl⟩
        by_cases hcap : cap = 0
        · subst hcap
          have : len = 0 := by omega
          subst this
          have hl0 : l = [] := List.length_eq_zero_iff.1 l1
          subst hl0
          exact .slemp _ _ a
        · have hspot : a.spot = none := by
            have h0 : ∃ cs, w.cells? base a (P.cellsOf e) = some cs := by
              by_cases hl0 : 0 < len
              · obtain ⟨cs, _, c1, _⟩ := hlt 0 hl0
                simp only [Nat.zero_mul, Addr.add, if_true] at c1
                exact ⟨cs, c1⟩
              · have hlen0 : len = 0 := by omega
                obtain ⟨q1, q2⟩ := hsp rfl
                have q3 := q2 0 (by omega)
                have q4 : rest[0]? = some (rest[0]'(by omega)) := List.getElem?_eq_getElem _
                rw [q4, Option.bind_eq_some_iff] at q3
                obtain ⟨cs, c1, _⟩ := q3
                rw [hlen0] at c1
                simp only [Nat.add_zero, Nat.zero_mul, Addr.add, if_true] at c1
                exact ⟨cs, c1⟩
            obtain ⟨cs, c1⟩ := h0
            obtain ⟨_, k2, k3⟩ := World.cells?_some c1
            have k4 := k3 0 hpos
            simp only [Addr.add, if_true] at k4
            have k5 : cs[0]? = some (cs[0]'(by omega)) := by simp
            rw [k5] at k4
            unfold World.cell? at k4
            split at k4
            · split at k4
              · cases k4
              · rename_i hs; simpa using hs
            · cases k4
          obtain ⟨ab, ao, asp⟩ := a
          simp only at hspot
          subst hspot
          have hll : (l.map f).length = len := by simp [l1]
          have hadd : ∀ (ao k : Nat), (⟨ab, ao, none⟩ : Addr).add k = ⟨ab, ao + k, none⟩ := by
            intro ao k; unfold Addr.add; split
            · rename_i h0; subst h0; rfl
            · rfl
          have main : ∀ (i : Nat) x (j : Nat) c, (l.map f)[i]? = some x → x.cells[j]? = some c → ∃ u, w.cell? ⟨ab, ao + i * P.cellsOf e + j, none⟩ = some u ∧ one u = true ∧ RepF w Noone c u ∧ x.cells.length = P.cellsOf e := by
            intro i x j c hx hc
            simp only [List.getElem?_map, Option.map_eq_some_iff] at hx
            obtain ⟨al, x1, rfl⟩ := hx
            obtain ⟨cs, d, g1, _, _, g4, g5⟩ := l2 i al x1
            obtain ⟨_, k2, k3⟩ := World.cells?_some g1
            have hj : j < cs.length := by rw [← g4]; exact (List.getElem?_eq_some_iff.1 hc).1
            have k4 := k3 j (by omega)
            rw [hadd, hadd] at k4
            have k5 : cs[j]? = some (cs[j]'hj) := by simp
            obtain ⟨r1, r2⟩ := g5 j c _ hc k5
            exact ⟨cs[j], by rw [k4]; exact k5, r2, r1, by omega⟩
          rw [← hll]
          refine .sl _ _ _ _ _ _ (fun i j => (w.cell? ⟨ab, ao + i * P.cellsOf e + j, none⟩).getD undef) (by rw [hll]; exact hl) (fun e => by cases e) (fun i x hx => ?_) (fun i x j c hx hc => ?_) (fun i x j c hx hc => ?_)
          · simp only [List.getElem?_map, Option.map_eq_some_iff] at hx
            obtain ⟨al, x1, rfl⟩ := hx
            obtain ⟨cs, d, g1, _, _, g4, _⟩ := l2 i al x1
            rw [g4]; exact (World.cells?_some g1).2.1
          · obtain ⟨u, u1, u2, u3, _⟩ := main i x j c hx hc
            rw [u1]; exact ⟨rfl, fun h => h, u2⟩
          · obtain ⟨u, u1, u2, u3, _⟩ := main i x j c hx hc
            rw [u1]; exact u3

theorem reads_map {P : Program} {t : TypeId} {α β : Type} {f : α → FV} {g : β → FV} {R : (H : Type) → α → DataW H → Prop} {R' : (H : Type) → β → DataW H → Prop} (h : Reads P t α f R) (m : α → β) (hm : ∀ a, g (m a) = f a) (hr : ∀ H a d, R H a d → R' H (m a) d) : Reads P t β g R' := by
  intro H enc w base held fuel cs d ps ht
  obtain ⟨a, h1, h2, h3⟩ := h H enc w base held fuel cs d ps ht
  exact ⟨m a, hr _ _ _ h1, by rw [hm]; exact h2, by rw [hm]; exact h3⟩

/-! ### From a contract to the row's walk -/

abbrev φ00 : Nat → Phys := fun _ => default

theorem T.calls {P : Program} {g : Nat} {args : List PV} {x : Value} (h : T P g args 0 [] (Ret (.f (.v x)) 0 [])) {w : World} {vals : Array Value} (hl : vals.size = args.length)
    (hr : ∀ (i : Nat) a v, args[i]? = some a → vals[i]? = some v → Rep φ00 0 w Noone a v) : Calls P g vals w fun e w' => e = .returned x ∧ RowKit.Below w.heap.size w w' := by
  have hSS : SS Noone φ00 [] = Noone := by
    funext b off; apply propext; constructor
    · rintro (h | ⟨n, o, h, _⟩)
      · exact h
      · simp [look] at h
    · intro h; exact h.elim
  have hOwn : ∀ b off, ¬ Own φ00 [] b off := by rintro b off ⟨n, o, h, _⟩; simp [look] at h
  refine (h.2 w φ00 Noone vals (fun _ _ h => h.elim) ⟨fun n o h => by simp [look] at h, fun n m o o' h => by simp [look] at h, fun n o h => by simp [look] at h⟩ hl (fun i a v h1 h2 => by rw [hSS]; exact hr i a v h1 h2)).mono ?_
  rintro e w' ⟨r, k', H', φ', v, rfl, ⟨rfl, rfl, rfl⟩, _, hrep, hext, _, _⟩
  exact ⟨by rw [hrep.v_inv], ⟨hext.os, hext.tape, hext.output, hext.size, fun k hk => hext.blk k hk fun off => hOwn k off⟩⟩

def Fits (w : World) : List PV → List Value → Prop
  | [], [] => True
  | a :: t, v :: u => Rep φ00 0 w Noone a v ∧ Fits w t u
  | _, _ => False

theorem Fits.get {w : World} : ∀ {qs : List PV} {vs : List Value}, Fits w qs vs → vs.length = qs.length ∧ ∀ (i : Nat) a v, qs[i]? = some a → vs[i]? = some v → Rep φ00 0 w Noone a v
  | [], [], _ => ⟨rfl, fun i a v h => by simp at h⟩
  | [], _ :: _, h => h.elim
  | _ :: _, [], h => h.elim
  | a :: t, v :: u, h => by
    obtain ⟨k1, k2⟩ := Fits.get h.2
    refine ⟨by simp [k1], fun i b x hb hx => ?_⟩
    cases i with
    | zero => simp at hb hx; subst hb; subst hx; exact h.1
    | succ i => exact k2 i b x (by simpa using hb) (by simpa using hx)

theorem T.row {P : Program} {g : Nat} {args : List PV} {x : Value} (h : T P g args 0 [] (Ret (.f (.v x)) 0 [])) {w : World} {vals : List Value} (hf : Fits w args vals) : Calls P g vals.toArray w fun e w' => e = .returned x ∧ RowKit.Below w.heap.size w w' :=
  h.calls (by simpa using hf.get.1) fun i a v h1 h2 => hf.get.2 i a v h1 (by simpa using h2)

theorem sized_l {P : Program} {H : Type} {ts : List TypeId} {ds : List (DataW H)} (hsz : (DataW.weightsEach P ts ds).all (· ≤ reachBytes) = true) {j : Nat} {t e : TypeId} {d : DataW H} (ht : ts[j]? = some t) (hd : ds[j]? = some d) (hu : P.underlying t = some (.slice e))
    {α : Type} {R : (H : Type) → α → DataW H → Prop} {l : List α} (h : sliceR R H l d) : l.length * P.bytesOf e ≤ 140737488351232 := by
  rcases h with ⟨rfl, rfl⟩ | ⟨es, sp, rfl, e1, _⟩
  · simp
  · have := sized_slice hsz ht hd hu
    have hr : reachBytes = 140737488351232 := by decide
    rw [hr] at this
    exact Nat.le_trans (Nat.mul_le_mul_right _ (by omega)) this
theorem u8_of {n : Int} (h : (Lit.int .u8 n).wf = true) : ∃ b : UInt8, n = b.toNat := ⟨UInt8.ofNat n.toNat, by have := wf_u8 h; simp; omega⟩
theorem wf_u16 {n : Int} (h : (Lit.int .u16 n).wf = true) : 0 ≤ n ∧ n < 65536 := by
  simp [Lit.wf, IntKind.min, IntKind.max, IntKind.signed, IntKind.bits] at h
  omega
theorem u16_of {n : Int} (h : (Lit.int .u16 n).wf = true) : ∃ b : UInt16, n = b.toNat := ⟨UInt16.ofNat n.toNat, by have := wf_u16 h; simp; omega⟩
theorem wf_i64 {n : Int} (h : (Lit.int .i64 n).wf = true) : -9223372036854775808 ≤ n ∧ n ≤ 9223372036854775807 := by
  simp [Lit.wf, IntKind.min, IntKind.max, IntKind.signed, IntKind.bits] at h
  omega
/-- A row of bytes, as a law's argument. -/
theorem reads_bytes {P : Program} {t e : TypeId} (ht : P.underlying t = some (.slice e)) (he : P.underlying e = some (.int .u8)) (hn : P.cellsOf e = 1) :
    Reads P t (List UInt8) (fun l => .sl 1 false (bytesU l)) (sliceR fun _ b d => d = .lit (.int .u8 b.toNat)) := reads_slice ht (reads_u8 he) 1 hn (by decide)
end Go.Proofs.YtnajikpdnccilaaGreat.Pv
