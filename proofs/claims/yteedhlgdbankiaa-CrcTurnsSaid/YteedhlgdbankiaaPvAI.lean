/- A call whose answer is known by what holds of it. -/
import Derived.Test.YteedhlgdbankiaaPvAH
set_option linter.unusedVariables false
namespace Go.Proofs.Yteedhlgdbankiaa.Pv
open Go
section
variable {P : Program} {tab : Tab} {nx : Nat} {env : Env} {H H' : Heap} {K : PV → Nat → Heap → Prop}
theorem s_callRE {β : Type} {p : β → Prop} {f : Operand} {args : Array Operand} {ts : Array Nat} {g : Nat} {caps ps : List PV} {r : β → PV} {k0 : Nat} {H0 : β → Heap} (ns : List Nat) {os : List Obj} (h1 : ev env f = some (.clo (.func g) caps)) (h2 : evs env args.toList = some ps)
    (h3 : Handed (passes ns H (allArgs ps caps)).2 ns os) (h3' : (ns.all fun n => decide (n < nx)) = true) (h4 : ((passes ns H (allArgs ps caps)).1.all (has fun n => ns.contains n)) = true) (h5 : (os.all (hasO fun n => ns.contains n)) = true)
    (ht : T P g ((passes ns H (allArgs ps caps)).1.map (ren (tau ns))) ns.length (mkH 0 (os.map (renO (tau ns)))) (fun a b d => ∃ x, p x ∧ Ret (r x) k0 (H0 x) a b d)) (hr : ∀ x, has (fun _ => true) (r x) = true) (hd : ∀ x, Dist (H0 x)) (ho : ∀ x, ((H0 x).all fun p => hasO (fun _ => true) p.2) = true)
    (h : ∀ x, p x → K (ren (sig ns nx) (r x)) (nx + (k0 - ns.length)) (renH (sig ns nx) (H0 x) ++ drops (passes ns H (allArgs ps caps)).2 ns)) : stepOp P tab env nx H K (.call { callee := .value f, args := args, argTypes := ts }) := by
  refine (⟨g, caps, ps, ns, os, h1, h2, h3, fun i n hi => ?_, h4, h5, ?_⟩ : stepCall P env H nx K f args.toList)
  · have := List.all_eq_true.1 h3' n (List.mem_of_getElem? hi); simpa using this
  · refine ht.mono fun r' k' Hr hq => ?_
    obtain ⟨x, hx, rfl, rfl, rfl⟩ := hq
    exact ⟨⟨hd x, fun n o h => List.all_eq_true.1 (ho x) _ h, hr x⟩, h x hx⟩
theorem s_callX1 {A0 : Type} {p : A0 → Prop} {f : Operand} {args : Array Operand} {ts : Array Nat} {g : Nat} {caps ps ps2 : List PV} {r r2 : A0 → PV} {k0 k nx1 : Nat} {H1 H2 : Heap} {H0 H3 : A0 → Heap} (ns : List Nat) (os : List Obj) (h1 : ev env f = some (.clo (.func g) caps)) (h2 : evs env args.toList = some ps)
    (hp : passes ns H (ps ++ caps) = (ps2, H2)) (h3 : Handed H2 ns os) (h3' : (ns.all fun n => decide (n < nx)) = true) (h4 : (ps2.all (has fun n => ns.contains n)) = true) (h5 : (os.all (hasO fun n => ns.contains n)) = true)
    (hk : ns.length = k) (hH : mkH 0 (os.map (renO (tau ns))) = H1) {ps3 : List PV} (h6 : ps2.map (ren (tau ns)) = ps3) (ht : T P g ps3 k H1 (fun a b d => ∃ x0, p x0 ∧ Ret (r x0) k0 (H0 x0) a b d)) (hr : ∀ x0, has (fun _ => true) (r x0) = true) (hd : ∀ x0, Dist (H0 x0)) (ho : ∀ x0, ((H0 x0).all fun p => hasO (fun _ => true) p.2) = true)
    (e1 : ∀ x0, ren (sig ns nx) (r x0) = r2 x0) (e2 : nx + (k0 - k) = nx1) (e3 : ∀ x0, renH (sig ns nx) (H0 x0) ++ drops H2 ns = H3 x0) (h : ∀ x0, p x0 → K (r2 x0) nx1 (H3 x0)) : stepOp P tab env nx H K (.call { callee := .value f, args := args, argTypes := ts }) := by
  subst hk; subst hH; subst h6; subst e2
  have q1 : (passes ns H (allArgs ps caps)).1 = ps2 := by unfold allArgs; rw [hp]
  have q2 : (passes ns H (allArgs ps caps)).2 = H2 := by unfold allArgs; rw [hp]
  refine s_callRE (β := A0) (p := fun x => p x) (r := fun x => r x) (H0 := fun x => H0 x) ns h1 h2 (by rw [q2]; exact h3) h3' (by rw [q1]; exact h4) h5 (by rw [q1]; exact ht.post fun a b d ⟨x0, y⟩ => ⟨x0, y⟩) (fun x => hr x) (fun x => hd x) (fun x => ho x) fun x hx => ?_
  rw [q2]
  have := h x hx
  rw [← e1, ← e3] at this
  exact this
theorem s_callX2 {A0 : Type} {A1 : Type} {p : A0 → A1 → Prop} {f : Operand} {args : Array Operand} {ts : Array Nat} {g : Nat} {caps ps ps2 : List PV} {r r2 : A0 → A1 → PV} {k0 k nx1 : Nat} {H1 H2 : Heap} {H0 H3 : A0 → A1 → Heap} (ns : List Nat) (os : List Obj) (h1 : ev env f = some (.clo (.func g) caps)) (h2 : evs env args.toList = some ps)
    (hp : passes ns H (ps ++ caps) = (ps2, H2)) (h3 : Handed H2 ns os) (h3' : (ns.all fun n => decide (n < nx)) = true) (h4 : (ps2.all (has fun n => ns.contains n)) = true) (h5 : (os.all (hasO fun n => ns.contains n)) = true)
    (hk : ns.length = k) (hH : mkH 0 (os.map (renO (tau ns))) = H1) {ps3 : List PV} (h6 : ps2.map (ren (tau ns)) = ps3) (ht : T P g ps3 k H1 (fun a b d => ∃ x0, ∃ x1, p x0 x1 ∧ Ret (r x0 x1) k0 (H0 x0 x1) a b d)) (hr : ∀ x0 x1, has (fun _ => true) (r x0 x1) = true) (hd : ∀ x0 x1, Dist (H0 x0 x1)) (ho : ∀ x0 x1, ((H0 x0 x1).all fun p => hasO (fun _ => true) p.2) = true)
    (e1 : ∀ x0 x1, ren (sig ns nx) (r x0 x1) = r2 x0 x1) (e2 : nx + (k0 - k) = nx1) (e3 : ∀ x0 x1, renH (sig ns nx) (H0 x0 x1) ++ drops H2 ns = H3 x0 x1) (h : ∀ x0 x1, p x0 x1 → K (r2 x0 x1) nx1 (H3 x0 x1)) : stepOp P tab env nx H K (.call { callee := .value f, args := args, argTypes := ts }) := by
  subst hk; subst hH; subst h6; subst e2
  have q1 : (passes ns H (allArgs ps caps)).1 = ps2 := by unfold allArgs; rw [hp]
  have q2 : (passes ns H (allArgs ps caps)).2 = H2 := by unfold allArgs; rw [hp]
  refine s_callRE (β := A0 × A1) (p := fun x => p x.1 x.2) (r := fun x => r x.1 x.2) (H0 := fun x => H0 x.1 x.2) ns h1 h2 (by rw [q2]; exact h3) h3' (by rw [q1]; exact h4) h5 (by rw [q1]; exact ht.post fun a b d ⟨x0, x1, y⟩ => ⟨(x0, x1), y⟩) (fun x => hr x.1 x.2) (fun x => hd x.1 x.2) (fun x => ho x.1 x.2) fun x hx => ?_
  rw [q2]
  have := h x.1 x.2 hx
  rw [← e1, ← e3] at this
  exact this
theorem s_callX3 {A0 : Type} {A1 : Type} {A2 : Type} {p : A0 → A1 → A2 → Prop} {f : Operand} {args : Array Operand} {ts : Array Nat} {g : Nat} {caps ps ps2 : List PV} {r r2 : A0 → A1 → A2 → PV} {k0 k nx1 : Nat} {H1 H2 : Heap} {H0 H3 : A0 → A1 → A2 → Heap} (ns : List Nat) (os : List Obj) (h1 : ev env f = some (.clo (.func g) caps)) (h2 : evs env args.toList = some ps)
    (hp : passes ns H (ps ++ caps) = (ps2, H2)) (h3 : Handed H2 ns os) (h3' : (ns.all fun n => decide (n < nx)) = true) (h4 : (ps2.all (has fun n => ns.contains n)) = true) (h5 : (os.all (hasO fun n => ns.contains n)) = true)
    (hk : ns.length = k) (hH : mkH 0 (os.map (renO (tau ns))) = H1) {ps3 : List PV} (h6 : ps2.map (ren (tau ns)) = ps3) (ht : T P g ps3 k H1 (fun a b d => ∃ x0, ∃ x1, ∃ x2, p x0 x1 x2 ∧ Ret (r x0 x1 x2) k0 (H0 x0 x1 x2) a b d)) (hr : ∀ x0 x1 x2, has (fun _ => true) (r x0 x1 x2) = true) (hd : ∀ x0 x1 x2, Dist (H0 x0 x1 x2)) (ho : ∀ x0 x1 x2, ((H0 x0 x1 x2).all fun p => hasO (fun _ => true) p.2) = true)
    (e1 : ∀ x0 x1 x2, ren (sig ns nx) (r x0 x1 x2) = r2 x0 x1 x2) (e2 : nx + (k0 - k) = nx1) (e3 : ∀ x0 x1 x2, renH (sig ns nx) (H0 x0 x1 x2) ++ drops H2 ns = H3 x0 x1 x2) (h : ∀ x0 x1 x2, p x0 x1 x2 → K (r2 x0 x1 x2) nx1 (H3 x0 x1 x2)) : stepOp P tab env nx H K (.call { callee := .value f, args := args, argTypes := ts }) := by
  subst hk; subst hH; subst h6; subst e2
  have q1 : (passes ns H (allArgs ps caps)).1 = ps2 := by unfold allArgs; rw [hp]
  have q2 : (passes ns H (allArgs ps caps)).2 = H2 := by unfold allArgs; rw [hp]
  refine s_callRE (β := A0 × A1 × A2) (p := fun x => p x.1 x.2.1 x.2.2) (r := fun x => r x.1 x.2.1 x.2.2) (H0 := fun x => H0 x.1 x.2.1 x.2.2) ns h1 h2 (by rw [q2]; exact h3) h3' (by rw [q1]; exact h4) h5 (by rw [q1]; exact ht.post fun a b d ⟨x0, x1, x2, y⟩ => ⟨(x0, x1, x2), y⟩) (fun x => hr x.1 x.2.1 x.2.2) (fun x => hd x.1 x.2.1 x.2.2) (fun x => ho x.1 x.2.1 x.2.2) fun x hx => ?_
  rw [q2]
  have := h x.1 x.2.1 x.2.2 hx
  rw [← e1, ← e3] at this
  exact this
theorem s_callX4 {A0 : Type} {A1 : Type} {A2 : Type} {A3 : Type} {p : A0 → A1 → A2 → A3 → Prop} {f : Operand} {args : Array Operand} {ts : Array Nat} {g : Nat} {caps ps ps2 : List PV} {r r2 : A0 → A1 → A2 → A3 → PV} {k0 k nx1 : Nat} {H1 H2 : Heap} {H0 H3 : A0 → A1 → A2 → A3 → Heap} (ns : List Nat) (os : List Obj) (h1 : ev env f = some (.clo (.func g) caps)) (h2 : evs env args.toList = some ps)
    (hp : passes ns H (ps ++ caps) = (ps2, H2)) (h3 : Handed H2 ns os) (h3' : (ns.all fun n => decide (n < nx)) = true) (h4 : (ps2.all (has fun n => ns.contains n)) = true) (h5 : (os.all (hasO fun n => ns.contains n)) = true)
    (hk : ns.length = k) (hH : mkH 0 (os.map (renO (tau ns))) = H1) {ps3 : List PV} (h6 : ps2.map (ren (tau ns)) = ps3) (ht : T P g ps3 k H1 (fun a b d => ∃ x0, ∃ x1, ∃ x2, ∃ x3, p x0 x1 x2 x3 ∧ Ret (r x0 x1 x2 x3) k0 (H0 x0 x1 x2 x3) a b d)) (hr : ∀ x0 x1 x2 x3, has (fun _ => true) (r x0 x1 x2 x3) = true) (hd : ∀ x0 x1 x2 x3, Dist (H0 x0 x1 x2 x3)) (ho : ∀ x0 x1 x2 x3, ((H0 x0 x1 x2 x3).all fun p => hasO (fun _ => true) p.2) = true)
    (e1 : ∀ x0 x1 x2 x3, ren (sig ns nx) (r x0 x1 x2 x3) = r2 x0 x1 x2 x3) (e2 : nx + (k0 - k) = nx1) (e3 : ∀ x0 x1 x2 x3, renH (sig ns nx) (H0 x0 x1 x2 x3) ++ drops H2 ns = H3 x0 x1 x2 x3) (h : ∀ x0 x1 x2 x3, p x0 x1 x2 x3 → K (r2 x0 x1 x2 x3) nx1 (H3 x0 x1 x2 x3)) : stepOp P tab env nx H K (.call { callee := .value f, args := args, argTypes := ts }) := by
  subst hk; subst hH; subst h6; subst e2
  have q1 : (passes ns H (allArgs ps caps)).1 = ps2 := by unfold allArgs; rw [hp]
  have q2 : (passes ns H (allArgs ps caps)).2 = H2 := by unfold allArgs; rw [hp]
  refine s_callRE (β := A0 × A1 × A2 × A3) (p := fun x => p x.1 x.2.1 x.2.2.1 x.2.2.2) (r := fun x => r x.1 x.2.1 x.2.2.1 x.2.2.2) (H0 := fun x => H0 x.1 x.2.1 x.2.2.1 x.2.2.2) ns h1 h2 (by rw [q2]; exact h3) h3' (by rw [q1]; exact h4) h5 (by rw [q1]; exact ht.post fun a b d ⟨x0, x1, x2, x3, y⟩ => ⟨(x0, x1, x2, x3), y⟩) (fun x => hr x.1 x.2.1 x.2.2.1 x.2.2.2) (fun x => hd x.1 x.2.1 x.2.2.1 x.2.2.2) (fun x => ho x.1 x.2.1 x.2.2.1 x.2.2.2) fun x hx => ?_
  rw [q2]
  have := h x.1 x.2.1 x.2.2.1 x.2.2.2 hx
  rw [← e1, ← e3] at this
  exact this
theorem s_callX5 {A0 : Type} {A1 : Type} {A2 : Type} {A3 : Type} {A4 : Type} {p : A0 → A1 → A2 → A3 → A4 → Prop} {f : Operand} {args : Array Operand} {ts : Array Nat} {g : Nat} {caps ps ps2 : List PV} {r r2 : A0 → A1 → A2 → A3 → A4 → PV} {k0 k nx1 : Nat} {H1 H2 : Heap} {H0 H3 : A0 → A1 → A2 → A3 → A4 → Heap} (ns : List Nat) (os : List Obj) (h1 : ev env f = some (.clo (.func g) caps)) (h2 : evs env args.toList = some ps)
    (hp : passes ns H (ps ++ caps) = (ps2, H2)) (h3 : Handed H2 ns os) (h3' : (ns.all fun n => decide (n < nx)) = true) (h4 : (ps2.all (has fun n => ns.contains n)) = true) (h5 : (os.all (hasO fun n => ns.contains n)) = true)
    (hk : ns.length = k) (hH : mkH 0 (os.map (renO (tau ns))) = H1) {ps3 : List PV} (h6 : ps2.map (ren (tau ns)) = ps3) (ht : T P g ps3 k H1 (fun a b d => ∃ x0, ∃ x1, ∃ x2, ∃ x3, ∃ x4, p x0 x1 x2 x3 x4 ∧ Ret (r x0 x1 x2 x3 x4) k0 (H0 x0 x1 x2 x3 x4) a b d)) (hr : ∀ x0 x1 x2 x3 x4, has (fun _ => true) (r x0 x1 x2 x3 x4) = true) (hd : ∀ x0 x1 x2 x3 x4, Dist (H0 x0 x1 x2 x3 x4)) (ho : ∀ x0 x1 x2 x3 x4, ((H0 x0 x1 x2 x3 x4).all fun p => hasO (fun _ => true) p.2) = true)
    (e1 : ∀ x0 x1 x2 x3 x4, ren (sig ns nx) (r x0 x1 x2 x3 x4) = r2 x0 x1 x2 x3 x4) (e2 : nx + (k0 - k) = nx1) (e3 : ∀ x0 x1 x2 x3 x4, renH (sig ns nx) (H0 x0 x1 x2 x3 x4) ++ drops H2 ns = H3 x0 x1 x2 x3 x4) (h : ∀ x0 x1 x2 x3 x4, p x0 x1 x2 x3 x4 → K (r2 x0 x1 x2 x3 x4) nx1 (H3 x0 x1 x2 x3 x4)) : stepOp P tab env nx H K (.call { callee := .value f, args := args, argTypes := ts }) := by
  subst hk; subst hH; subst h6; subst e2
  have q1 : (passes ns H (allArgs ps caps)).1 = ps2 := by unfold allArgs; rw [hp]
  have q2 : (passes ns H (allArgs ps caps)).2 = H2 := by unfold allArgs; rw [hp]
  refine s_callRE (β := A0 × A1 × A2 × A3 × A4) (p := fun x => p x.1 x.2.1 x.2.2.1 x.2.2.2.1 x.2.2.2.2) (r := fun x => r x.1 x.2.1 x.2.2.1 x.2.2.2.1 x.2.2.2.2) (H0 := fun x => H0 x.1 x.2.1 x.2.2.1 x.2.2.2.1 x.2.2.2.2) ns h1 h2 (by rw [q2]; exact h3) h3' (by rw [q1]; exact h4) h5 (by rw [q1]; exact ht.post fun a b d ⟨x0, x1, x2, x3, x4, y⟩ => ⟨(x0, x1, x2, x3, x4), y⟩) (fun x => hr x.1 x.2.1 x.2.2.1 x.2.2.2.1 x.2.2.2.2) (fun x => hd x.1 x.2.1 x.2.2.1 x.2.2.2.1 x.2.2.2.2) (fun x => ho x.1 x.2.1 x.2.2.1 x.2.2.2.1 x.2.2.2.2) fun x hx => ?_
  rw [q2]
  have := h x.1 x.2.1 x.2.2.1 x.2.2.2.1 x.2.2.2.2 hx
  rw [← e1, ← e3] at this
  exact this
end
end Go.Proofs.Yteedhlgdbankiaa.Pv
