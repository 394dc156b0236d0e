/- Arguments of laws that are stated up to a bulk. -/
import Derived.Test.YteedhlgdbankiaaPvAE
set_option linter.unusedVariables false
namespace Go.Proofs.Yteedhlgdbankiaa.Pv
open Go

theorem ReadsB.reads {P : Program} {t : TypeId} {α : Type} {f : α → FV} {B : α → Prop} (h : ReadsB P t α f B) : Reads P t α f fun _ _ _ => True := by
  intro H enc w base held fuel cs d ps hd
  obtain ⟨a, _, h2, h3⟩ := h H enc w base held fuel cs d ps hd
  exact ⟨a, trivial, h2, h3⟩
/-- A row that is handed in: as long as what is read. -/
theorem Reads.argS {P : Program} {t e : TypeId} {α : Type} {f : α → FV} {B : α → Prop} (ht : P.underlying t = some (.slice e)) (he : ReadsB P e α f B) (n : Nat) (hn : P.cellsOf e = n) (hpos : 0 < n)
    {H : Type} {enc : TypeId × Value → H} {w : World} {base : Nat} {held : Bool} {fuel : Nat} {v : Value} {d : DataW H} {ps : List MemPlace}
    (hf : DataW.trod enc P w base (fun _ => true) held fuel t v.cells.toList = some (d, ps)) (hv2 : v.cells = #[v]) :
    ∃ l : List α, (l = [] ∨ ∃ es sp, d = .slice es sp ∧ es.length = l.length) ∧ Rep φ00 0 w Noone (.f (encS n f l)) v := by
  obtain ⟨a, h1, h2, h3⟩ := reads_slice ht he.reads n hn hpos H enc w base held fuel _ d ps hf
  refine ⟨a, ?_, .f ?_⟩
  · rcases h1 with ⟨_, h⟩ | ⟨es, sp, h, h4, _⟩
    · exact .inl h
    · exact .inr ⟨es, sp, h, h4⟩
  · rw [hv2] at h3
    exact (h3 0 _ v rfl rfl).1
end Go.Proofs.Yteedhlgdbankiaa.Pv
