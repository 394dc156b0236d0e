/- An owned row, cut to its own end: its spare room is given up. -/
import Derived.Test.YteedhlgdbankiaaPvAI
set_option linter.unusedVariables false
set_option linter.unusedSimpArgs false
namespace Go.Proofs.Yteedhlgdbankiaa.Pv
open Go
section
variable {P : Program} {tab : Tab} {c : Ctx} {nx : Nat} {env : Env} {H : Heap} {K : PV → Nat → Heap → Prop} {o : Oper}
theorem does_clip (ht : TabOk P tab) {t e n sz : Nat} {x p m : Operand} {i ie : TI} {wr : Bool} {l : List FV} (ho : o.op = .slice t x none (some p) (some m)) (h1 : tab t = some i) (h2 : i.kd = .slice e) (h3 : tab e = some ie) (hz : ie.size = sz) (hz0 : sz ≠ 0)
    (h4 : ev env x = some (.ref n 0 none)) (h5 : look H n = some (.buf wr sz l)) (hb : bound env (some p) l.length l.length) (hm : bound env (some m) 0 l.length) (k : K (.ref nx 0 none) (nx + 1) ((nx, .buf wr sz l) :: drop H n)) : Does P o c nx env H K :=
  Does.value fun φ tmps w hs => by
    subst hz
    have hu := under_slice ht h1 h2
    have hr := ev_rep hs h4
    obtain ⟨hnx, e1, e2, e3⟩ := hs.ok.obj n _ h5
    have h0 : bound env none 0 0 := rfl
    generalize hv : (act tmps).eval x = v at hr
    cases hr with
    | @refnil _ _ hlt hnil hlen hh0 =>
      have hl0 : l = [] := by rw [e1] at hlen; exact List.eq_nil_of_length_eq_zero hlen
      subst hl0
      have hb' : bound env (some p) 0 0 := hb
      have hm' : bound env (some m) 0 0 := hm
      refine ⟨_, _, _, upd φ nx ⟨0, 0, 0, 0, ie.size, true⟩, .slice none 0 0, w, exec_slice ho hv ?_, k, ?_, ?_⟩
      · simp only [Instr.sliceAt, Instr.slice, Option.map_some]
        simp only [Sem.run_bind, run_underlying hu, Result.andThen_ok, Sem.run_pure, run_bounds3 hs h0 hb' hm' (Nat.le_refl 0) (Nat.le_refl 0)]
        simp [run_size ht h3]
      · have := hs.nilbuf wr ie.size
        exact this.let_go' (by omega)
      · exact .refnil (Nat.lt_succ_self _) (by rw [upd_same]) (by rw [upd_same]) rfl
    | @ref _ _ _ cap A hlt hnil b1 b2 b3 b4 b5 =>
      rcases e3 with ⟨e3, _⟩ | ⟨_, arr, ty, a1, a2, a3, a4, a5⟩
      · rw [hnil] at e3; cases e3
      simp only [Option.getD_none, Nat.sub_zero, Nat.zero_add] at b1 b2 b3 b4 b5 hv
      have hll : l.length ≤ cap := by omega
      refine ⟨_, _, _, upd φ nx ⟨(φ n).blk, (φ n).base, l.length, l.length, ie.size, false⟩, .slice (if l.length = 0 then some A else (some A).map (·.add (0 * ie.size))) l.length l.length, w, exec_slice ho hv ?_, k, ?_, ?_⟩
      · simp only [Instr.sliceAt, Instr.slice, Option.map_some]
        rw [e1]
        simp only [Sem.run_bind, run_underlying hu, Result.andThen_ok, Sem.run_pure, run_bounds3 hs h0 hb hm (Nat.zero_le _) (show l.length ≤ cap by omega), run_size ht h3]
        simp
      · refine hs.write (n := n) (m := nx) (nx' := nx + 1) h5 hnil (.inr ⟨rfl, rfl⟩) rfl rfl ?_ rfl rfl rfl rfl (fun b _ => rfl) (fun q _ => rfl) (fun hmo => ?_)
        · cases wr <;> simp [lim, e1, e2]
        · simp only [SatO, upd_same]
          refine ⟨trivial, trivial, .inr ⟨trivial, arr, ty, a1, ?_, Nat.le_refl _, a4, fun i x j d hx hd => ?_⟩⟩
          · have := Nat.mul_le_mul_right ie.size (show l.length ≤ (φ n).cap by omega)
            show (φ n).base + l.length * ie.size ≤ arr.size; omega
          · obtain ⟨u, u1, u2, u3⟩ := a5 i x j d hx hd
            exact ⟨u, u1, u2, u3.step hmo⟩
      · have := Rep.ref (φ := upd φ nx ⟨(φ n).blk, (φ n).base, l.length, l.length, ie.size, false⟩) (nx := nx + 1) (w := w) (S := SS c.So (upd φ nx ⟨(φ n).blk, (φ n).base, l.length, l.length, ie.size, false⟩) ((nx, .buf wr ie.size l) :: drop H n)) (n := nx) (lo := 0) (hi := none) (cap := l.length)
          (A := if l.length = 0 then A else A.add (0 * ie.size)) (Nat.lt_succ_self _) (by rw [upd_same]) (Nat.zero_le _) (Nat.le_refl _) (by rw [upd_same]; simp) (by rw [upd_same]; exact Nat.le_refl _) (fun hc => by
            rw [if_neg hc, upd_same]
            have := b5 (by omega)
            rw [this]
            simp [add_plain])
        rw [upd_same] at this
        by_cases hl : l.length = 0
        · simp only [hl, if_true] at this ⊢
          simpa using this
        · simp only [hl, if_false] at this ⊢
          simpa using this
theorem r_clipR {tab : Tab} {Q : Post} {ops : Array Oper} {rest : List Oper} (ht : TabOk P tab) {dst : Option Nat} {ty : Nat} {pos : String} {a : Array Edge} {nt : Nat} (hnt : c.nt = nt) (hd : dstOk nt dst = true) {t e n sz : Nat} {x p m : Operand} {i ie : TI} {wr : Bool} {l : List FV} (h1 : tab t = some i) (h2 : i.kd = .slice e) (h3 : tab e = some ie) (hz : ie.size = sz) (hz0 : sz ≠ 0)
    (h4 : ev env x = some (.ref n 0 none)) (h5 : look H n = some (.buf wr sz l)) (hb : bound env (some p) l.length l.length) (hm : bound env (some m) 0 l.length) (k : R P c ops rest (putE dst (.ref nx 0 none) env) (nx + 1) ((nx, .buf wr sz l) :: drop H n) Q) :
    R P c ops (⟨dst, .slice t x none (some p) (some m), ty, pos, a, none⟩ :: rest) env nx H Q := by
  subst hnt
  intro φ tmps w hs
  unfold wpList
  rw [if_pos (by simp [Region.wanted])]
  refine .inl (does_clip (o := ⟨dst, .slice t x none (some p) (some m), ty, pos, a, none⟩) (K := fun pv nx' H' => R P c ops rest (putE dst pv env) nx' H' Q) ht rfl h1 h2 h3 hz hz0 h4 h5 hb hm k φ tmps w hs _ _ fun pv nx' H' φ' v w' hk hs' hr => ?_)
  have e : (act tmps).put dst v = act ((act tmps).put dst v).tmps := by cases dst <;> rfl
  rw [e]
  exact hk φ' _ w' (hs'.putE hr hd)
theorem r_clipM {tab : Tab} {Q : Post} {ops : Array Oper} {rest : List Oper} (ht : TabOk P tab) {dst : Option Nat} {ty : Nat} {pos : String} {a : Array Edge} {nt : Nat} (hnt : c.nt = nt) (hd : dstOk nt dst = true) {t e n sz : Nat} {x p m : Operand} {i ie : TI} {wr : Bool} {α : Type} {f : α → FV} {l : List α} (h1 : tab t = some i) (h2 : i.kd = .slice e) (h3 : tab e = some ie) (hz : ie.size = sz ∧ sz ≠ 0)
    (h4 : ev env x = some (.ref n 0 none)) (h5 : look H n = some (oB wr sz f l)) (hb : bound env (some p) l.length l.length) (hm : bound env (some m) 0 l.length) (k : R P c ops rest (putE dst (.ref nx 0 none) env) (nx + 1) ((nx, oB wr sz f l) :: drop H n) Q) :
    R P c ops (⟨dst, .slice t x none (some p) (some m), ty, pos, a, none⟩ :: rest) env nx H Q :=
  r_clipR ht hnt hd h1 h2 h3 hz.1 hz.2 h4 h5 (by rw [List.length_map]; exact hb) (by rw [List.length_map]; exact hm) k
theorem le_tr {x y z : PV} (h : PV.le x y) (h2 : PV.le y z) : PV.le x z := fun φ nx w S v hv => h2 φ nx w S v (h φ nx w S v hv)
theorem v_leO {G : Act → World → Prop} {n : Nat} {cs ds : List PV} (hl : look H n = some (.obj cs)) (hle : LeL cs ds) (h : V c G env nx (hput H n (.obj ds))) : V c G env nx H := fun φ tmps w hs => by
  obtain ⟨k1, k2⟩ := hle.get
  exact h φ tmps w (hs.leCells hl k1 fun i a b ha hb v hr => k2 i a b ha hb _ _ _ _ _ hr)
theorem w_leO {code : Code} {Q : Post} {n : Nat} {cs ds : List PV} (hl : look H n = some (.obj cs)) (hle : LeL cs ds) (h : W P c code env nx (hput H n (.obj ds)) Q) : W P c code env nx H Q := v_leO hl hle h
theorem r_leO {ops : Array Oper} {rest : List Oper} {Q : Post} {n : Nat} {cs ds : List PV} (hl : look H n = some (.obj cs)) (hle : LeL cs ds) (h : R P c ops rest env nx (hput H n (.obj ds)) Q) : R P c ops rest env nx H Q := v_leO hl hle h
end
end Go.Proofs.Yteedhlgdbankiaa.Pv
