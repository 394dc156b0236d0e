/- Facts: calls that are known whatever memory is; what a law's run must come to. -/
import Derived.Test.YtnajikpdnccilaaGreatPvMJ
import Derived.Test.YtnajikpdnccilaaGreatPvAA
set_option linter.unusedVariables false
set_option linter.unusedSimpArgs false
namespace Go.Proofs.YtnajikpdnccilaaGreat.Pv.M
open Go

structure Fact where
  g : Nat
  args : List MV
  res : MV
noncomputable section
def factW (f : Fact) (e : CallK) : CallK := fun g args nx H k => ow (Nat.beq g f.g) (ow (eqL f.args args) (k f.res nx H) (e g args nx H k)) (e g args nx H k)
def factsW (fs : List Fact) (e : CallK) : CallK := List.rec (motive := fun _ => CallK) e (fun f _ ih => factW f ih) fs
def noneV (a : MV) : Bool := hasV (fun _ => false) a
def runX (P : Program) (D : Dm) (fs : List Fact) (rs : List Rule) (gs : List Nat) (n : Nat) : CallK := Nat.rec (motive := fun _ => CallK) (fun _ _ _ _ _ => false) (fun _ ih => factsW fs (rulesW D rs (gcW gs (stepF P D ih)))) n
/-- What a law's run must come to. -/
def trueK : KV := fun v _ _ => onB v true false
end
section
variable {ρ : Nat → Int} {P : Program} {D : Dm}
/-- A function answers so, whatever memory is. -/
def Ans (ρ : Nat → Int) (P : Program) (g : Nat) (args : List MV) (r : MV) : Prop := ∃ nx' H', TB ρ P g args 0 [] r nx' H'
def FactOk (ρ : Nat → Int) (P : Program) (f : Fact) : Prop := allB noneV f.args = true ∧ noneV f.res = true ∧ Ans ρ P f.g f.args f.res
def FactsOk (ρ : Nat → Int) (P : Program) (fs : List Fact) : Prop := ∀ f ∈ fs, FactOk ρ P f
theorem lt_none : (fun _ => false) = ltB 0 := by funext n; exact (decide_eq_false (Nat.not_lt_zero n)).symm
theorem factW_ok {f : Fact} (hf : FactOk ρ P f) {e : CallK} (he : CallOk ρ P e) : CallOk ρ P (factW f e) := by
  intro g args nx H k h
  rcases ow_inv (show ow (Nat.beq g f.g) (ow (eqL f.args args) (k f.res nx H) (e g args nx H k)) (e g args nx H k) = true from h) with ⟨hg, h1⟩ | ⟨_, h1⟩
  · rcases ow_inv h1 with ⟨ha, h2⟩ | ⟨_, h2⟩
    · have hg := Nat.eq_of_beq_eq_true hg
      subst hg
      obtain ⟨f1, f2, nx', H', t⟩ := hf
      unfold noneV at f1 f2
      rw [lt_none] at f1 f2
      have t2 : TB ρ P f.g f.args nx H f.res nx H := t.use (Nat.zero_le _) (fun a ha => allB_inv f1 a ha) (fun n o hn => by rw [look_nil] at hn; cases hn) f2 fun n o hn => .inr ⟨hn, look_nil n⟩
      have e2 := fun (φ : Nat → Ph) (nx : Nat) => (eqL_ok (ρ := ρ) (φ := φ) (nx := nx) ha)
      have hH : AlikeH ρ ρ H H := ⟨fun n o hn => ⟨o, hn, fun φ nx => ⟨Iff.rfl, fun w n => Iff.rfl⟩⟩, fun n o hn => ⟨o, hn, fun φ nx => ⟨Iff.rfl, fun w n => Iff.rfl⟩⟩⟩
      exact ⟨_, _, _, t2.alike (e2 (fun _ => default) 0).1.symm (fun i a a' ha ha' φ nx => ((e2 φ nx).2 i a' a ha' ha).symm) hH (fun φ nx u => Iff.rfl) hH, h2, Suf.refl H⟩
    · exact he h2
  · exact he h1
theorem factsW_ok {e : CallK} (he : CallOk ρ P e) : ∀ {fs : List Fact}, FactsOk ρ P fs → CallOk ρ P (factsW fs e)
  | [], _ => he
  | f :: fs, h => factW_ok (h f List.mem_cons_self) (factsW_ok he fun q hq => h q (List.mem_cons_of_mem _ hq))
theorem facts_nil : FactsOk ρ P [] := fun f hf => by cases hf
theorem facts_cons {f : Fact} {fs : List Fact} (h : FactOk ρ P f) (hs : FactsOk ρ P fs) : FactsOk ρ P (f :: fs) := fun q hq => by
  rcases List.mem_cons.1 hq with rfl | hq
  · exact h
  · exact hs q hq
theorem runX_ok (hm : P.follows .mixedOrders = true) (hD : OkD D ρ) {fs : List Fact} (hfs : FactsOk ρ P fs) {rs : List Rule} (hrs : RulesOk P rs) (gs : List Nat) : ∀ (n : Nat), CallOk ρ P (runX P D fs rs gs n)
  | 0 => fun h => by cases (show false = true from h)
  | n + 1 => factsW_ok (rulesW_ok hD (gcW_ok (stepF_ok hD (drawOk hm hD) (runX_ok hm hD hfs hrs gs n)) gs) hrs) hfs
theorem Ans.of {P : Program} (hm : P.follows .mixedOrders = true) (hD : OkD D ρ) {fs : List Fact} (hfs : FactsOk ρ P fs) {rs : List Rule} (hrs : RulesOk P rs) {gs : List Nat} {n g : Nat} {args : List MV} {x : MV}
    (h : runX P D fs rs gs n g args 0 [] (fun v _ _ => eqV v x) = true) : Ans ρ P g args x := by
  obtain ⟨r, nx', H', t, hk, _⟩ := runX_ok hm hD hfs hrs gs n h
  have hH : ∀ H : Heap, AlikeH ρ ρ H H := fun H => ⟨fun n o hn => ⟨o, hn, fun φ nx => ⟨Iff.rfl, fun w n => Iff.rfl⟩⟩, fun n o hn => ⟨o, hn, fun φ nx => ⟨Iff.rfl, fun w n => Iff.rfl⟩⟩⟩
  exact ⟨nx', H', t.alike rfl (fun i a a' h1 h2 φ nx => by rw [h1] at h2; cases h2; exact fun u => Iff.rfl) (hH []) (fun φ nx => (eqV_ok r x hk).symm) (hH H')⟩
/-- The same answer, told otherwise. -/
theorem Ans.alike {ρ' : Nat → Int} {g : Nat} {args args' : List MV} {r r' : MV} (h : Ans ρ' P g args' r') (hl : args.length = args'.length) (ha : ∀ (i : Nat) a a', args[i]? = some a → args'[i]? = some a' → ∀ φ nx, Alike ρ φ nx ρ' a a')
    (hr : ∀ φ nx, Alike ρ φ nx ρ' r r') (hv : noneV r' = true) : Ans ρ P g args r := by
  obtain ⟨nx', H', t⟩ := h
  unfold noneV at hv
  rw [lt_none] at hv
  have t2 : TB ρ' P g args' 0 [] r' nx' [] := t.frame (fun n o hn => hn) fun n o hn => by rw [look_nil] at hn; cases hn
  have hH : AlikeH ρ ρ' [] [] := ⟨fun n o hn => (by rw [look_nil] at hn; cases hn), fun n o hn => (by rw [look_nil] at hn; cases hn)⟩
  exact ⟨nx', [], t2.alike hl ha hH hr hH⟩
theorem Ans.row {g : Nat} {args : List MV} {x : Bool} (h : Ans ρ P g args (.b x)) {w : World} {vals : List Value} (hl : vals.length = args.length) (ha : ∀ (i : Nat) a v, args[i]? = some a → vals[i]? = some v → ∀ φ nx, Rel ρ φ nx a v) :
    Calls P g vals.toArray w fun e w' => e = .returned (.bool x) ∧ RowKit.Below w.heap.size w w' := by
  obtain ⟨nx', H', t⟩ := h
  refine (t.2 w (fun _ => default) vals.toArray ⟨fun n o hn => (by rw [look_nil] at hn; cases hn), fun n m o o' hn => (by rw [look_nil] at hn; cases hn)⟩ (by simpa using hl) fun i a v h1 h2 => ha i a v h1 (by simpa using h2) _ _).mono ?_
  rintro e w' ⟨φ', v, he, _, hv, hext, _, _⟩
  cases hv
  exact ⟨he, hext.os, hext.tape, hext.output, hext.size, fun k hk => hext.blk k hk fun ⟨n, o, hn, _⟩ => by rw [look_nil] at hn; cases hn⟩
end
end Go.Proofs.YtnajikpdnccilaaGreat.Pv.M
