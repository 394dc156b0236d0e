/- Arguments of laws that are stated up to a bulk: read with how great each part is. -/
import Derived.Test.YteedhlgdbankiaaPvAG
set_option linter.unusedVariables false
set_option linter.unusedSimpArgs false
namespace Go.Proofs.Yteedhlgdbankiaa.Pv
open Go

/-- Read; bounded where what is read is small. -/
def ReadsK (S : {H : Type} → DataW H → Prop) (P : Program) (t : TypeId) (α : Type) (f : α → FV) (B : α → Prop) : Prop :=
  ∀ (H : Type) (enc : TypeId × Value → H) (w : World) (base : Nat) (held : Bool) (fuel : Nat) (cs : List Value) (d : DataW H) (ps : List MemPlace), DataW.trod enc P w base (fun _ => true) held fuel t cs = some (d, ps) →
    ∃ a, (S d → B a) ∧ (f a).cells.length = cs.length ∧ ∀ (j : Nat) c u, (f a).cells[j]? = some c → cs[j]? = some u → RepF w Noone c u ∧ one u = true
section
variable {S : {H : Type} → DataW H → Prop}
theorem rdK_u8 {P : Program} {t : TypeId} (ht : P.underlying t = some (.int .u8)) : ReadsK S P t UInt8 enc8 fun _ => True := by
  intro H enc w base held fuel cs d ps h
  obtain ⟨a, _, h2⟩ := (rdB_u8 ht) H enc w base held fuel cs d ps h
  exact ⟨a, fun _ => trivial, h2⟩
theorem rdK_bool {P : Program} {t : TypeId} (ht : P.underlying t = some .bool) : ReadsK S P t Bool encBo fun _ => True := by
  intro H enc w base held fuel cs d ps h
  obtain ⟨a, _, h2⟩ := (rdB_bool ht) H enc w base held fuel cs d ps h
  exact ⟨a, fun _ => trivial, h2⟩
theorem rdK_u16 {P : Program} {t : TypeId} (ht : P.underlying t = some (.int .u16)) : ReadsK S P t UInt16 enc16 fun _ => True := by
  intro H enc w base held fuel cs d ps h
  obtain ⟨a, _, h2⟩ := (rdB_u16 ht) H enc w base held fuel cs d ps h
  exact ⟨a, fun _ => trivial, h2⟩
theorem rdK_int {P : Program} {t : TypeId} (ht : P.underlying t = some (.int .i64)) : ReadsK S P t Int encI fun n => -9223372036854775808 ≤ n ∧ n ≤ 9223372036854775807 := by
  intro H enc w base held fuel cs d ps h
  obtain ⟨⟨n, hw⟩, h1, h2, h3⟩ := reads_int ht H enc w base held fuel cs d ps h
  exact ⟨n, fun _ => wf_i64 hw, h2, h3⟩
theorem rdK_slice {K : Nat} (hS : ∀ {H : Type} (es sp : List (DataW H)), S (.slice es sp) → es.length ≤ K ∧ ∀ x ∈ es, S x) {P : Program} {t e : TypeId} {α : Type} {f : α → FV} {B : α → Prop} (ht : P.underlying t = some (.slice e)) (he : ReadsK S P e α f B) (n : Nat) (hn : P.cellsOf e = n) (hpos : 0 < n) :
    ReadsK S P t (List α) (encS n f) fun l => l.length ≤ K ∧ ∀ x ∈ l, B x := by
  have hr : Reads P e α f fun H a d => S d → B a := by
    intro H enc w base held fuel cs d ps h
    exact he H enc w base held fuel cs d ps h
  intro H enc w base held fuel cs d ps h
  obtain ⟨l, h1, h2, h3⟩ := reads_slice ht hr n hn hpos H enc w base held fuel cs d ps h
  refine ⟨l, fun hw => ?_, h2, h3⟩
  rcases h1 with ⟨rfl, rfl⟩ | ⟨es, sp, rfl, e1, e2⟩
  · simp
  · obtain ⟨k1, k2⟩ := hS es sp hw
    refine ⟨by omega, fun x hx => ?_⟩
    obtain ⟨i, hi⟩ := List.getElem?_of_mem hx
    have hil : i < es.length := by rw [e1]; exact (List.getElem?_eq_some_iff.1 hi).1
    exact e2 i x es[i] hi (by simp [hil]) (k2 _ (List.getElem_mem hil))
theorem ReadsK.map {P : Program} {t : TypeId} {α β : Type} {f : α → FV} {g : β → FV} {B : α → Prop} {B' : β → Prop} (h : ReadsK S P t α f B) (m : α → β) (hm : ∀ a, g (m a) = f a) (hb : ∀ a, B a → B' (m a)) : ReadsK S P t β g B' := by
  intro H enc w base held fuel cs d ps ht
  obtain ⟨a, h1, h2, h3⟩ := h H enc w base held fuel cs d ps ht
  exact ⟨m a, fun hn => hb _ (h1 hn), by rw [hm]; exact h2, by rw [hm]; exact h3⟩

/-- A row of fields, one behind the other. -/
def ReadsLK (S : {H : Type} → DataW H → Prop) (P : Program) (off tot : Nat) (fs : List (Nat × TypeId)) (α : Type) (g : α → List FV) (B : α → Prop) : Prop :=
  ∀ (H : Type) (enc : TypeId × Value → H) (w : World) (base : Nat) (held : Bool) (fuel : Nat) (cs : List Value) (xs : List (DataW H × List MemPlace)), xs.length = fs.length → cs.length = tot →
    (∀ (i : Nat) o t, fs[i]? = some (o, t) → DataW.trod enc P w base (fun _ => true) held fuel t ((cs.drop o).take (P.cellsOf t)) = xs[i]?) →
    ∃ a, ((∀ x ∈ xs.map (·.1), S x) → B a) ∧ (g a).length + off = tot ∧ ∀ (j : Nat) c u, (g a)[j]? = some c → (cs.drop off)[j]? = some u → RepF w Noone c u ∧ one u = true
theorem rdLK_cons {P : Program} {off tot : Nat} {t : TypeId} {fs : List (Nat × TypeId)} {α β : Type} {f : α → FV} {g : β → List FV} {B : α → Prop} {B' : β → Prop} (n : Nat) (h : ReadsK S P t α f B) (hn : P.cellsOf t = n) (hl : ReadsLK S P (off + n) tot fs β g B') :
    ReadsLK S P off tot ((off, t) :: fs) (α × β) (fun p => (f p.1).cells ++ g p.2) fun p => B p.1 ∧ B' p.2 := by
  intro H enc w base held fuel cs xs hxl htot hx
  cases xs with
  | nil => simp at hxl
  | cons x xs =>
    obtain ⟨d, ps⟩ := x
    have h0 := hx 0 off t rfl
    simp only [List.getElem?_cons_zero] at h0
    obtain ⟨a, a1, a2, a3⟩ := h H enc w base held fuel _ d ps h0
    obtain ⟨b, b1, b2, b3⟩ := hl H enc w base held fuel cs xs (by simpa using hxl) htot fun i o t hi => by
      have := hx (i + 1) o t (by simpa using hi)
      simpa using this
    have hlen : (f a).cells.length = n := by
      rw [a2, List.length_take, List.length_drop, hn]; omega
    refine ⟨(a, b), fun hw => ⟨a1 (hw d (by simp)), b1 fun q hq => hw q (by simp at hq ⊢; exact .inr hq)⟩, ?_, fun j c u hc hu => ?_⟩
    · simp only [List.length_append, hlen]; omega
    · simp only at hc
      rw [List.getElem?_append] at hc
      split at hc
      · rename_i hj
        refine a3 j c u hc ?_
        rw [List.getElem?_take, if_pos (by rw [hn, ← hlen]; exact hj)]
        exact hu
      · rename_i hj
        refine b3 (j - (f a).cells.length) c u hc ?_
        rw [List.getElem?_drop] at hu ⊢
        rw [← hu]
        congr 1
        omega
theorem rdLK_nil {P : Program} {off : Nat} : ReadsLK S P off off [] Unit (fun _ => []) fun _ => True := by
  intro H enc w base held fuel cs xs hxl htot hx
  exact ⟨(), fun _ => trivial, by simp, fun j c u hc => by simp at hc⟩
theorem rdK_struct (hS : ∀ {H : Type} (ps : List (DataW H)), S (.agg ps) → ∀ x ∈ ps, S x) {P : Program} {t : TypeId} {F : Array Field} {fs : List (Nat × TypeId)} {tot : Nat} {α : Type} {g : α → List FV} {B : α → Prop} (ht : P.underlying t = some (.struct F)) (hF : F.toList.map (fun f => (f.offset, f.type)) = fs) (hc : P.cellsOf t = tot)
    (h : ReadsLK S P 0 tot fs α g B) : ReadsK S P t α (fun a => .agg (g a)) B := by
  intro H enc w base held fuel cs d ps hd
  obtain ⟨xs, n, rfl, hx, hl, hxl, hel⟩ := DataW.trod_struct ht hd
  cases hx
  subst hF
  obtain ⟨a, a1, a2, a3⟩ := h H enc w base held n cs xs (by simpa using hxl) (by rw [hl, hc]) fun i o t' hi => by
    simp only [List.getElem?_map, Option.map_eq_some_iff, Prod.mk.injEq, Array.getElem?_toList] at hi
    obtain ⟨f, f1, rfl, rfl⟩ := hi
    exact hel i f f1
  refine ⟨a, fun hw => a1 fun q hq => hS _ hw q hq, ?_, ?_⟩
  · simp only [FV.cells]; omega
  · simpa [FV.cells] using a3

/-- An argument, as it stands in the row. -/
theorem ReadsK.arg {P : Program} {t : TypeId} {α : Type} {f : α → FV} {B : α → Prop} (h : ReadsK S P t α f B) {H : Type} {enc : TypeId × Value → H} {w : World} {base : Nat} {held : Bool} {fuel : Nat} {v : Value} {d : DataW H} {ps : List MemPlace}
    (hsm : S d) (hf : DataW.trod enc P w base (fun _ => true) held fuel t v.cells.toList = some (d, ps)) (hv : ∀ a, (f a).isAgg = true → ∃ cs, v = .agg cs) (hv2 : ∀ a, (f a).isAgg = false → v.cells = #[v]) : ∃ a, B a ∧ Rep φ00 0 w Noone (.f (f a)) v := by
  obtain ⟨a, h1, h2, h3⟩ := h H enc w base held fuel _ d ps hf
  refine ⟨a, h1 hsm, .f ?_⟩
  cases hq : (f a).isAgg with
  | true =>
    obtain ⟨cs, rfl⟩ := hv a hq
    cases hfa : f a with
    | agg ds =>
      rw [hfa] at h2 h3
      simp only [FV.cells, Value.cells, Array.length_toList] at h2 h3
      refine .agg ds cs h2.symm (fun i u hu => ?_) fun i c u hc hu => (h3 i c u hc (by simpa using hu)).1
      have hi : i < ds.length := by rw [h2]; exact (Array.getElem?_eq_some_iff.1 hu).1
      exact (h3 i ds[i] u (by simp [hi]) (by simpa using hu)).2
    | _ => rw [hfa] at hq; cases hq
  | false =>
    have hvv := hv2 a hq
    rw [hvv] at h3
    have hc : (f a).cells = [f a] := by cases hfa : f a <;> first | rfl | (rw [hfa] at hq; cases hq)
    exact (h3 0 (f a) v (by rw [hc]; rfl) rfl).1
end
end Go.Proofs.Yteedhlgdbankiaa.Pv
