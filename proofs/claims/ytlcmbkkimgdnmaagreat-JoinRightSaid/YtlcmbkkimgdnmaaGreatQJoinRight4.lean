/- What the law JoinRight needs, and no more: merged out of texts of this session by a program of it (wip/tools/prune.py). -/
import Derived.Test.YtlcmbkkimgdnmaaGreatQJoinRight3
set_option linter.unusedVariables false
set_option linter.unusedSimpArgs false
set_option maxRecDepth 10000
set_option maxHeartbeats 1000000
namespace Go.Proofs.YtlcmbkkimgdnmaaGreat
open Go Go.Proofs.YtlcmbkkimgdnmaaGreat.Pv
theorem lN (a : TReply) (b : TReply) (ha : a.bits.length ≤ 140737488351232 ∧ a.vals.length ≤ 140737488351232 ∧ a.data.length ≤ 140737488351232) :
    T Tryz.prog 53 [PV.f (aK a),PV.f (aK b)] 0 [] (Ret (pB (decide (a = b))) 0 []) := by
 refine bn aF (n := 73) (rs := [.tmp 4]) Tryz.func53 Z Z Z Z (nb Z) ?_
 intro c N hk
 refine sr (qo N Z (cu Z Z ?_))
 refine qo N Z (cu Z Z ?_)
 refine qa N Z Z (aE [(2,PV.ptr 0 0),(3,PV.ptr 1 0)] [(1,.obj (bm b)),(0,.obj (bm a))] 2 ⟨Z,Z,trivial⟩ Z Z (re (sr (xp N 69 [.o 6,.b 5 [.o 5],.o 1,.b 5 [.o 5],.o 1,.b 5 [.o 5],.o 1,.b 5 [.o 5],.o 1,.b 5 [.o 4,.c (pB (decide (a.and_ = b.and_)))],.o 1,.b 5 [.o 4,.c (pB (decide (a.or_ = b.or_)))],.o 1,.b 5 [.o 4,.c (pB (decide (a.bits = b.bits)))],.o 1,.b 5 [.o 4,.c (pB (decide (a.vals = b.vals)))],.o 1,.b 5 [.o 4,.c (pB (decide (a.data = b.data)))],.o 1] [(((((decide (a.fn = b.fn)) && (decide (a.code = b.code))) && (decide (a.at_ = b.at_))) && (decide (a.count = b.count))) && (decide (a.sub = b.sub))) = true → AllP [oh a.and_ b.and_],((((((decide (a.fn = b.fn)) && (decide (a.code = b.code))) && (decide (a.at_ = b.at_))) && (decide (a.count = b.count))) && (decide (a.sub = b.sub))) && (decide (a.and_ = b.and_))) = true → AllP [oh a.or_ b.or_],(((((((decide (a.fn = b.fn)) && (decide (a.code = b.code))) && (decide (a.at_ = b.at_))) && (decide (a.count = b.count))) && (decide (a.sub = b.sub))) && (decide (a.and_ = b.and_))) && (decide (a.or_ = b.or_))) = true → AllP [T Tryz.prog 72 [pS 1 false ar a.bits,pS 1 false ar b.bits] 0 [] (Ret (pB (decide (a.bits = b.bits))) 0 [])],((((((((decide (a.fn = b.fn)) && (decide (a.code = b.code))) && (decide (a.at_ = b.at_))) && (decide (a.count = b.count))) && (decide (a.sub = b.sub))) && (decide (a.and_ = b.and_))) && (decide (a.or_ = b.or_))) && (decide (a.bits = b.bits))) = true → AllP [T Tryz.prog 73 [pS 1 false aj a.vals,pS 1 false aj b.vals] 0 [] (Ret (pB (decide (a.vals = b.vals))) 0 [])],(((((((((decide (a.fn = b.fn)) && (decide (a.code = b.code))) && (decide (a.at_ = b.at_))) && (decide (a.count = b.count))) && (decide (a.sub = b.sub))) && (decide (a.and_ = b.and_))) && (decide (a.or_ = b.or_))) && (decide (a.bits = b.bits))) && (decide (a.vals = b.vals))) = true → AllP [T Tryz.prog 74 [pS 1 false az a.data,pS 1 false az b.data] 0 [] (Ret (pB (decide (a.data = b.data))) 0 [])]] [(4,pB ((((((((((decide (a.fn = b.fn)) && (decide (a.code = b.code))) && (decide (a.at_ = b.at_))) && (decide (a.count = b.count))) && (decide (a.sub = b.sub))) && (decide (a.and_ = b.and_))) && (decide (a.or_ = b.or_))) && (decide (a.bits = b.bits))) && (decide (a.vals = b.vals))) && (decide (a.data = b.data))))] ?_ (hc := ⟨by intro hq; (try simp only [sB] at hq); exact ⟨eqC16_ok _ _,trivial⟩,by intro hq; (try simp only [sB] at hq); exact ⟨eqC16_ok _ _,trivial⟩,by intro hq; (try simp only [sB] at hq); exact ⟨(w_slices_Equal_bool_bool a.bits false b.bits false (by omega)),trivial⟩,by intro hq; (try simp only [sB] at hq); exact ⟨(w_slices_Equal_uint16_uint16 a.vals false b.vals false (by omega)),trivial⟩,by intro hq; (try simp only [sB] at hq); exact ⟨(w_slices_Equal_byte_byte a.data false b.data false (by omega)),trivial⟩,trivial⟩)))))
 exact re (aq (s := 4) Z (congrArg pB (show ((((((((((decide (a.fn = b.fn)) && (decide (a.code = b.code))) && (decide (a.at_ = b.at_))) && (decide (a.count = b.count))) && (decide (a.sub = b.sub))) && (decide (a.and_ = b.and_))) && (decide (a.or_ = b.or_))) && (decide (a.bits = b.bits))) && (decide (a.vals = b.vals))) && (decide (a.data = b.data))) = (decide (a = b)) by apply Bool.eq_iff_iff.2; simp only [Bool.and_eq_true,decide_eq_true_eq]; cases a; cases b; simp only [TReply.mk.injEq]; constructor <;> (intro h; simp_all))) (w_ret fp))
theorem sA (r : TReply) (hr : r.bits.length ≤ 140737488351232 ∧ r.vals.length ≤ 140737488351232 ∧ r.data.length ≤ 140737488351232) :
    T Tryz.prog 54 [PV.f (aK r)] 0 [] (Ret (PV.tup [PV.f (aK (bw r)),pB (bO r.fn)]) 0 []) := by
 refine bn aF (n := 73) (rs := [.cell 2 40,.tmp 3]) Tryz.func54 Z Z Z Z (nb Z) ?_
 intro c N hk
 refine sr (qo N Z (cu Z Z ?_))
 refine qo N Z (cg aM ?_)
 let Y : Nat × Pv.Obj := (0,.obj (bm r))
 let Y8 : ah := [(1,.obj [pI 0,pI 0,pI 0,pI 0,pI 0,aH,aH,au 0,au 0,aH]),Y]
 refine qa N Z Z (aE [(1,PV.ptr 0 0),(2,PV.ptr 1 0)] Y8 2 ⟨Z,Z,trivial⟩ Z Z (re (sr (xm N 4 [.o 4] [] [] 2 [(1,.obj [pI r.fn,pI 0,pI 0,pI 0,pI 0,aH,aH,au 0,au 0,aH]),Y] (re ?_)))))
 refine an (sr (xp N 2 [.o 2] [] [(8,pI r.fn)] (re (aP (xo N 10 [[.o 2],[.o 2]] [] ((decide (r.fn = 1)) || (decide (r.fn = 2))) ?_)))))
 refine av Z (fun c2 => ?_) (fun c2 => ?_)
 ·try simp only [sB,Bool.or_eq_true,Bool.or_eq_false_iff] at c2
  let Y3 : ah := [(1,.obj [pI r.fn,pI 0,pI 0,pI 0,pI 0,pS 1 false ar r.bits,aH,au 0,au 0,aH]),Y]
  refine bk (xm N 4 [.o 4] [] [] 2 Y3 (bG (aG (ak (sr ?_)))))
  refine xm N 3 [.o 3] [] [(3,pB true)] 2 Y3 (re ?_)
  have hz1 : r.fn = ((bw r).fn) ∧ 0 = ((bw r).code) ∧ 0 = ((bw r).at_) ∧ 0 = ((bw r).count) ∧ 0 = ((bw r).sub) ∧ r.bits = ((bw r).bits) ∧ ([] : List UInt16) = ((bw r).vals) ∧ 0 = ((bw r).and_) ∧ 0 = ((bw r).or_) ∧ ([] : List UInt8) = ((bw r).data) := by and_intros <;> ((unfold bw; rw [if_pos (by omega)]; done))
  exact bH (n := 1) (ds := bm (bw r)) Z ⟨le_of_eq (congrArg pI hz1.1),le_of_eq (congrArg pI hz1.2.1),le_of_eq (congrArg pI hz1.2.2.1),le_of_eq (congrArg pI hz1.2.2.2.1),le_of_eq (congrArg pI hz1.2.2.2.2.1),le_of_eq (congrArg (fun z => pS 1 false ar z) hz1.2.2.2.2.2.1),be (ax 1 false) (le_of_eq (congrArg (fun z => pS 1 false aj z) hz1.2.2.2.2.2.2.1)),le_of_eq (congrArg au hz1.2.2.2.2.2.2.2.1),le_of_eq (congrArg au hz1.2.2.2.2.2.2.2.2.1),be (ax 1 false) (le_of_eq (congrArg (fun z => pS 1 false az z) hz1.2.2.2.2.2.2.2.2.2)),trivial⟩ (aq (s := 3) Z (congrArg pB (show true = (bO r.fn) by exact (decide_eq_true (by omega)).symm)) (w_ret fp))
 try simp only [sB,Bool.or_eq_true,Bool.or_eq_false_iff] at c2
 refine xo N 16 [[.o 2],[.o 2],[.o 2]] [] ((decide (r.fn = 3)) || ((decide (r.fn = 4)) || (decide (r.fn = 23)))) (av Z (fun c5 => ?_) (fun c5 => ?_))
 ·try simp only [sB,Bool.or_eq_true,Bool.or_eq_false_iff] at c5
  let Y4 : ah := [(1,.obj [pI r.fn,pI 0,pI 0,pI 0,pI 0,aH,pS 1 false aj r.vals,au 0,au 0,aH]),Y]
  refine bk (xm N 4 [.o 4] [] [] 2 Y4 (bG (aG (ak (sr ?_)))))
  refine xm N 3 [.o 3] [] [(3,pB true)] 2 Y4 (re ?_)
  have hz2 : r.fn = ((bw r).fn) ∧ 0 = ((bw r).code) ∧ 0 = ((bw r).at_) ∧ 0 = ((bw r).count) ∧ 0 = ((bw r).sub) ∧ ([] : List Bool) = ((bw r).bits) ∧ r.vals = ((bw r).vals) ∧ 0 = ((bw r).and_) ∧ 0 = ((bw r).or_) ∧ ([] : List UInt8) = ((bw r).data) := by and_intros <;> ((unfold bw; rw [if_neg (by omega),if_pos (by omega)]; done))
  exact bH (n := 1) (ds := bm (bw r)) Z ⟨le_of_eq (congrArg pI hz2.1),le_of_eq (congrArg pI hz2.2.1),le_of_eq (congrArg pI hz2.2.2.1),le_of_eq (congrArg pI hz2.2.2.2.1),le_of_eq (congrArg pI hz2.2.2.2.2.1),be (ax 1 false) (le_of_eq (congrArg (fun z => pS 1 false ar z) hz2.2.2.2.2.2.1)),le_of_eq (congrArg (fun z => pS 1 false aj z) hz2.2.2.2.2.2.2.1),le_of_eq (congrArg au hz2.2.2.2.2.2.2.2.1),le_of_eq (congrArg au hz2.2.2.2.2.2.2.2.2.1),be (ax 1 false) (le_of_eq (congrArg (fun z => pS 1 false az z) hz2.2.2.2.2.2.2.2.2.2)),trivial⟩ (aq (s := 3) Z (congrArg pB (show true = (bO r.fn) by exact (decide_eq_true (by omega)).symm)) (w_ret fp))
 try simp only [sB,Bool.or_eq_true,Bool.or_eq_false_iff] at c5
 let Y9 : aI := [(2,PV.ptr 1 0)]
 refine sr (xp N 2 [.o 2] [] [(23,pB (decide (r.fn = 5)))] (re (av Z (fun c6 => ?_) (fun c6 => ?_))))
 ·try simp only [sB] at c6
  let Y0 : ah := [(1,.obj [pI r.fn,pI 0,pI r.at_,pI 0,pI 0,pS 1 false ar r.bits,aH,au 0,au 0,aH]),Y]
  refine cK N (xd 8 [.o 8] [] 2 Y0 (xe Y9 (bG (aG (ak ?_)))))
  refine sr (xm N 3 [.o 3] [] [(3,pB true)] 2 Y0 (re ?_))
  have hz3 : r.fn = ((bw r).fn) ∧ 0 = ((bw r).code) ∧ r.at_ = ((bw r).at_) ∧ 0 = ((bw r).count) ∧ 0 = ((bw r).sub) ∧ r.bits = ((bw r).bits) ∧ ([] : List UInt16) = ((bw r).vals) ∧ 0 = ((bw r).and_) ∧ 0 = ((bw r).or_) ∧ ([] : List UInt8) = ((bw r).data) := by and_intros <;> ((unfold bw; rw [if_neg (by omega),if_neg (by omega),if_pos (by omega)]; done))
  exact bH (n := 1) (ds := bm (bw r)) Z ⟨le_of_eq (congrArg pI hz3.1),le_of_eq (congrArg pI hz3.2.1),le_of_eq (congrArg pI hz3.2.2.1),le_of_eq (congrArg pI hz3.2.2.2.1),le_of_eq (congrArg pI hz3.2.2.2.2.1),le_of_eq (congrArg (fun z => pS 1 false ar z) hz3.2.2.2.2.2.1),be (ax 1 false) (le_of_eq (congrArg (fun z => pS 1 false aj z) hz3.2.2.2.2.2.2.1)),le_of_eq (congrArg au hz3.2.2.2.2.2.2.2.1),le_of_eq (congrArg au hz3.2.2.2.2.2.2.2.2.1),be (ax 1 false) (le_of_eq (congrArg (fun z => pS 1 false az z) hz3.2.2.2.2.2.2.2.2.2)),trivial⟩ (aq (s := 3) Z (congrArg pB (show true = (bO r.fn) by exact (decide_eq_true (by omega)).symm)) (w_ret fp))
 try simp only [sB] at c6
 refine sr (xp N 2 [.o 2] [] [(31,pB (decide (r.fn = 6)))] (re (av Z (fun c7 => ?_) (fun c7 => ?_))))
 ·try simp only [sB] at c7
  let Y1 : ah := [(1,.obj [pI r.fn,pI 0,pI r.at_,pI 0,pI 0,aH,pS 1 false aj r.vals,au 0,au 0,aH]),Y]
  refine cK N (xd 8 [.o 8] [] 2 Y1 (xe Y9 (bG (aG (ak ?_)))))
  refine sr (xm N 3 [.o 3] [] [(3,pB true)] 2 Y1 (re ?_))
  have hz4 : r.fn = ((bw r).fn) ∧ 0 = ((bw r).code) ∧ r.at_ = ((bw r).at_) ∧ 0 = ((bw r).count) ∧ 0 = ((bw r).sub) ∧ ([] : List Bool) = ((bw r).bits) ∧ r.vals = ((bw r).vals) ∧ 0 = ((bw r).and_) ∧ 0 = ((bw r).or_) ∧ ([] : List UInt8) = ((bw r).data) := by and_intros <;> ((unfold bw; rw [if_neg (by omega),if_neg (by omega),if_neg (by omega),if_pos (by omega)]; done))
  exact bH (n := 1) (ds := bm (bw r)) Z ⟨le_of_eq (congrArg pI hz4.1),le_of_eq (congrArg pI hz4.2.1),le_of_eq (congrArg pI hz4.2.2.1),le_of_eq (congrArg pI hz4.2.2.2.1),le_of_eq (congrArg pI hz4.2.2.2.2.1),be (ax 1 false) (le_of_eq (congrArg (fun z => pS 1 false ar z) hz4.2.2.2.2.2.1)),le_of_eq (congrArg (fun z => pS 1 false aj z) hz4.2.2.2.2.2.2.1),le_of_eq (congrArg au hz4.2.2.2.2.2.2.2.1),le_of_eq (congrArg au hz4.2.2.2.2.2.2.2.2.1),be (ax 1 false) (le_of_eq (congrArg (fun z => pS 1 false az z) hz4.2.2.2.2.2.2.2.2.2)),trivial⟩ (aq (s := 3) Z (congrArg pB (show true = (bO r.fn) by exact (decide_eq_true (by omega)).symm)) (w_ret fp))
 try simp only [sB] at c7
 refine sr (xp N 2 [.o 2] [] [(39,pB (decide (r.fn = 8)))] (re (av Z (fun c8 => ?_) (fun c8 => ?_))))
 ·try simp only [sB] at c8
  let Y2 : ah := [(1,.obj [pI r.fn,pI 0,pI 0,pI 0,pI r.sub,aH,pS 1 false aj r.vals,au 0,au 0,aH]),Y]
  refine cK N (xd 8 [.o 8] [] 2 Y2 (xe Y9 (bG (aG (ak ?_)))))
  refine sr (xm N 3 [.o 3] [] [(3,pB true)] 2 Y2 (re ?_))
  have hz5 : r.fn = ((bw r).fn) ∧ 0 = ((bw r).code) ∧ 0 = ((bw r).at_) ∧ 0 = ((bw r).count) ∧ r.sub = ((bw r).sub) ∧ ([] : List Bool) = ((bw r).bits) ∧ r.vals = ((bw r).vals) ∧ 0 = ((bw r).and_) ∧ 0 = ((bw r).or_) ∧ ([] : List UInt8) = ((bw r).data) := by and_intros <;> ((unfold bw; rw [if_neg (by omega),if_neg (by omega),if_neg (by omega),if_neg (by omega),if_pos (by omega)]; done))
  exact bH (n := 1) (ds := bm (bw r)) Z ⟨le_of_eq (congrArg pI hz5.1),le_of_eq (congrArg pI hz5.2.1),le_of_eq (congrArg pI hz5.2.2.1),le_of_eq (congrArg pI hz5.2.2.2.1),le_of_eq (congrArg pI hz5.2.2.2.2.1),be (ax 1 false) (le_of_eq (congrArg (fun z => pS 1 false ar z) hz5.2.2.2.2.2.1)),le_of_eq (congrArg (fun z => pS 1 false aj z) hz5.2.2.2.2.2.2.1),le_of_eq (congrArg au hz5.2.2.2.2.2.2.2.1),le_of_eq (congrArg au hz5.2.2.2.2.2.2.2.2.1),be (ax 1 false) (le_of_eq (congrArg (fun z => pS 1 false az z) hz5.2.2.2.2.2.2.2.2.2)),trivial⟩ (aq (s := 3) Z (congrArg pB (show true = (bO r.fn) by exact (decide_eq_true (by omega)).symm)) (w_ret fp))
 try simp only [sB] at c8
 refine xo N 47 [[.o 2],[.o 2]] [] ((decide (r.fn = 15)) || (decide (r.fn = 16))) (av Z (fun c10 => ?_) (fun c10 => ?_))
 ·try simp only [sB,Bool.or_eq_true,Bool.or_eq_false_iff] at c10
  let Y7 : ah := [(1,.obj [pI r.fn,pI 0,pI r.at_,pI r.count,pI 0,aH,aH,au 0,au 0,aH]),Y]
  refine cK N (xd 8 [.o 8] [] 2 Y7 (xe Y9 (bG (aG (ak ?_)))))
  refine sr (xm N 3 [.o 3] [] [(3,pB true)] 2 Y7 (re ?_))
  have hz6 : r.fn = ((bw r).fn) ∧ 0 = ((bw r).code) ∧ r.at_ = ((bw r).at_) ∧ r.count = ((bw r).count) ∧ 0 = ((bw r).sub) ∧ ([] : List Bool) = ((bw r).bits) ∧ ([] : List UInt16) = ((bw r).vals) ∧ 0 = ((bw r).and_) ∧ 0 = ((bw r).or_) ∧ ([] : List UInt8) = ((bw r).data) := by and_intros <;> ((unfold bw; rw [if_neg (by omega),if_neg (by omega),if_neg (by omega),if_neg (by omega),if_neg (by omega),if_pos (by omega)]; done))
  exact bH (n := 1) (ds := bm (bw r)) Z ⟨le_of_eq (congrArg pI hz6.1),le_of_eq (congrArg pI hz6.2.1),le_of_eq (congrArg pI hz6.2.2.1),le_of_eq (congrArg pI hz6.2.2.2.1),le_of_eq (congrArg pI hz6.2.2.2.2.1),be (ax 1 false) (le_of_eq (congrArg (fun z => pS 1 false ar z) hz6.2.2.2.2.2.1)),be (ax 1 false) (le_of_eq (congrArg (fun z => pS 1 false aj z) hz6.2.2.2.2.2.2.1)),le_of_eq (congrArg au hz6.2.2.2.2.2.2.2.1),le_of_eq (congrArg au hz6.2.2.2.2.2.2.2.2.1),be (ax 1 false) (le_of_eq (congrArg (fun z => pS 1 false az z) hz6.2.2.2.2.2.2.2.2.2)),trivial⟩ (aq (s := 3) Z (congrArg pB (show true = (bO r.fn) by exact (decide_eq_true (by omega)).symm)) (w_ret fp))
 try simp only [sB,Bool.or_eq_true,Bool.or_eq_false_iff] at c10
 refine sr (qo N Z (bF Z Z ?_))
 refine ae N Z Z (av Z (fun c11 => ?_) (fun c11 => ?_))
 ·try simp only [sB] at c11
  let Y6 : ah := [(1,.obj [pI r.fn,pI 0,pI r.at_,pI 0,pI 0,aH,aH,au r.and_,au r.or_,aH]),Y]
  refine cK N (xd 12 [.o 12] [] 2 Y6 (xe Y9 (bG (aG (ak ?_)))))
  refine sr (xm N 3 [.o 3] [] [(3,pB true)] 2 Y6 (re ?_))
  have hz7 : r.fn = ((bw r).fn) ∧ 0 = ((bw r).code) ∧ r.at_ = ((bw r).at_) ∧ 0 = ((bw r).count) ∧ 0 = ((bw r).sub) ∧ ([] : List Bool) = ((bw r).bits) ∧ ([] : List UInt16) = ((bw r).vals) ∧ r.and_ = ((bw r).and_) ∧ r.or_ = ((bw r).or_) ∧ ([] : List UInt8) = ((bw r).data) := by and_intros <;> ((unfold bw; rw [if_neg (by omega),if_neg (by omega),if_neg (by omega),if_neg (by omega),if_neg (by omega),if_neg (by omega),if_pos (by omega)]; done))
  exact bH (n := 1) (ds := bm (bw r)) Z ⟨le_of_eq (congrArg pI hz7.1),le_of_eq (congrArg pI hz7.2.1),le_of_eq (congrArg pI hz7.2.2.1),le_of_eq (congrArg pI hz7.2.2.2.1),le_of_eq (congrArg pI hz7.2.2.2.2.1),be (ax 1 false) (le_of_eq (congrArg (fun z => pS 1 false ar z) hz7.2.2.2.2.2.1)),be (ax 1 false) (le_of_eq (congrArg (fun z => pS 1 false aj z) hz7.2.2.2.2.2.2.1)),le_of_eq (congrArg au hz7.2.2.2.2.2.2.2.1),le_of_eq (congrArg au hz7.2.2.2.2.2.2.2.2.1),be (ax 1 false) (le_of_eq (congrArg (fun z => pS 1 false az z) hz7.2.2.2.2.2.2.2.2.2)),trivial⟩ (aq (s := 3) Z (congrArg pB (show true = (bO r.fn) by exact (decide_eq_true (by omega)).symm)) (w_ret fp))
 try simp only [sB] at c11
 refine sr (qo N Z (bF Z Z ?_))
 refine ae N Z Z (av Z (fun c12 => ?_) (fun c12 => ?_))
 ·try simp only [sB] at c12
  let Y5 : ah := [(1,.obj [pI r.fn,pI 0,pI 0,pI 0,pI 0,aH,aH,au 0,au 0,pS 1 false az r.data]),Y]
  refine bk (xm N 4 [.o 4] [] [] 2 Y5 (bG (aG (ak (sr ?_)))))
  refine xm N 3 [.o 3] [] [(3,pB true)] 2 Y5 (re ?_)
  have hz8 : r.fn = ((bw r).fn) ∧ 0 = ((bw r).code) ∧ 0 = ((bw r).at_) ∧ 0 = ((bw r).count) ∧ 0 = ((bw r).sub) ∧ ([] : List Bool) = ((bw r).bits) ∧ ([] : List UInt16) = ((bw r).vals) ∧ 0 = ((bw r).and_) ∧ 0 = ((bw r).or_) ∧ r.data = ((bw r).data) := by and_intros <;> ((unfold bw; rw [if_neg (by omega),if_neg (by omega),if_neg (by omega),if_neg (by omega),if_neg (by omega),if_neg (by omega),if_neg (by omega),if_pos (by omega)]; done))
  exact bH (n := 1) (ds := bm (bw r)) Z ⟨le_of_eq (congrArg pI hz8.1),le_of_eq (congrArg pI hz8.2.1),le_of_eq (congrArg pI hz8.2.2.1),le_of_eq (congrArg pI hz8.2.2.2.1),le_of_eq (congrArg pI hz8.2.2.2.2.1),be (ax 1 false) (le_of_eq (congrArg (fun z => pS 1 false ar z) hz8.2.2.2.2.2.1)),be (ax 1 false) (le_of_eq (congrArg (fun z => pS 1 false aj z) hz8.2.2.2.2.2.2.1)),le_of_eq (congrArg au hz8.2.2.2.2.2.2.2.1),le_of_eq (congrArg au hz8.2.2.2.2.2.2.2.2.1),le_of_eq (congrArg (fun z => pS 1 false az z) hz8.2.2.2.2.2.2.2.2.2),trivial⟩ (aq (s := 3) Z (congrArg pB (show true = (bO r.fn) by exact (decide_eq_true (by omega)).symm)) (w_ret fp))
 try simp only [sB] at c12
 refine sr (xm N 3 [.o 3] [] [(3,pB false)] 2 Y8 (re ?_))
 have hz9 : 0 = ((bw r).fn) ∧ 0 = ((bw r).code) ∧ 0 = ((bw r).at_) ∧ 0 = ((bw r).count) ∧ 0 = ((bw r).sub) ∧ ([] : List Bool) = ((bw r).bits) ∧ ([] : List UInt16) = ((bw r).vals) ∧ 0 = ((bw r).and_) ∧ 0 = ((bw r).or_) ∧ ([] : List UInt8) = ((bw r).data) := by and_intros <;> ((unfold bw; rw [if_neg (by omega),if_neg (by omega),if_neg (by omega),if_neg (by omega),if_neg (by omega),if_neg (by omega),if_neg (by omega),if_neg (by omega)]; rfl))
 exact bH (n := 1) (ds := bm (bw r)) Z ⟨le_of_eq (congrArg pI hz9.1),le_of_eq (congrArg pI hz9.2.1),le_of_eq (congrArg pI hz9.2.2.1),le_of_eq (congrArg pI hz9.2.2.2.1),le_of_eq (congrArg pI hz9.2.2.2.2.1),be (ax 1 false) (le_of_eq (congrArg (fun z => pS 1 false ar z) hz9.2.2.2.2.2.1)),be (ax 1 false) (le_of_eq (congrArg (fun z => pS 1 false aj z) hz9.2.2.2.2.2.2.1)),le_of_eq (congrArg au hz9.2.2.2.2.2.2.2.1),le_of_eq (congrArg au hz9.2.2.2.2.2.2.2.2.1),be (ax 1 false) (le_of_eq (congrArg (fun z => pS 1 false az z) hz9.2.2.2.2.2.2.2.2.2)),trivial⟩ (aq (s := 3) Z (congrArg pB (show false = (bO r.fn) by exact (decide_eq_false (by omega)).symm)) (w_ret (am (af fp))))
theorem ju (n : Int)  :
    T Tryz.prog 32 [pI n] 0 [] (Ret (pT (aW n)) 0 []) := by
 refine bn aF (n := 22) (rs := [.tmp 2]) Tryz.func32 Z Z Z Z (nb Z) ?_
 intro c N hk
 refine sr (ae N Z Z (an (sr (qm N Z Z (re (aP (an (sr ?_))))))))
 refine xp N 2 [.o 2] [] [(4,pB (decide (n = 1)))] (re (av Z (fun c1 => ?_) (fun c1 => ?_)))
 ·have c1_ := c1
  try simp only [sB] at c1
  refine aw (ak (av Z (fun _ => ?_) (fun e => absurd (e.symm.trans c1_) (by decide))))
  exact sr (ae N Z Z (aq (s := 2) Z (congrArg (fun z : List UInt8 => pT z) (show ([98] : List UInt8) = (aW n) by (simp [aW, *]; done))) (w_ret (am (af fp)))))
 have c1_ := c1
 try simp only [sB] at c1
 refine bk (qo N Z (bF Z Z ?_))
 refine ae N Z Z (av Z (fun c2 => ?_) (fun c2 => ?_))
 ·try simp only [sB] at c2
  exact sr (ae N Z Z (aq (s := 2) Z (congrArg (fun z : List UInt8 => pT z) (show ([98] : List UInt8) = (aW n) by (simp [aW, *]; done))) (w_ret (am (af fp)))))
 try simp only [sB] at c2
 refine an (sr (xp N 2 [.o 2] [] [(7,pB (decide (n = 3)))] (re (av Z (fun c3 => ?_) (fun c3 => ?_)))))
 ·have c3_ := c3
  try simp only [sB] at c3
  refine aw (ak (av Z (fun _ => ?_) (fun e => absurd (e.symm.trans c3_) (by decide))))
  exact sr (ae N Z Z (aq (s := 2) Z (congrArg (fun z : List UInt8 => pT z) (show ([118] : List UInt8) = (aW n) by (simp [aW, *]; done))) (w_ret (am (af fp)))))
 have c3_ := c3
 try simp only [sB] at c3
 refine sr (qo N Z (bF Z Z ?_))
 refine ae N Z Z (av Z (fun c4 => ?_) (fun c4 => ?_))
 ·have c4_ := c4
  try simp only [sB] at c4
  refine aw (ak (av Z (fun _ => ?_) (fun e => absurd (e.symm.trans c4_) (by decide))))
  exact sr (ae N Z Z (aq (s := 2) Z (congrArg (fun z : List UInt8 => pT z) (show ([118] : List UInt8) = (aW n) by (simp [aW, *]; done))) (w_ret (am (af fp)))))
 have c4_ := c4
 try simp only [sB] at c4
 refine bk (qo N Z (bF Z Z ?_))
 refine ae N Z Z (av Z (fun c5 => ?_) (fun c5 => ?_))
 ·try simp only [sB] at c5
  exact sr (ae N Z Z (aq (s := 2) Z (congrArg (fun z : List UInt8 => pT z) (show ([118] : List UInt8) = (aW n) by (simp [aW, *]; done))) (w_ret (am (af fp)))))
 try simp only [sB] at c5
 refine sr (xp N 2 [.o 2] [] [(11,pB (decide (n = 5)))] (re (av Z (fun c6 => ?_) (fun c6 => ?_))))
 ·try simp only [sB] at c6
  exact sr (ae N Z Z (aq (s := 2) Z (congrArg (fun z : List UInt8 => pT z) (show ([97,98] : List UInt8) = (aW n) by (simp [aW, *]; done))) (w_ret (am (af fp)))))
 try simp only [sB] at c6
 refine sr (xp N 2 [.o 2] [] [(13,pB (decide (n = 6)))] (re (av Z (fun c7 => ?_) (fun c7 => ?_))))
 ·try simp only [sB] at c7
  exact sr (ae N Z Z (aq (s := 2) Z (congrArg (fun z : List UInt8 => pT z) (show ([97,118] : List UInt8) = (aW n) by (simp [aW, *]; done))) (w_ret (am (af fp)))))
 try simp only [sB] at c7
 refine sr (xp N 2 [.o 2] [] [(15,pB (decide (n = 8)))] (re (av Z (fun c8 => ?_) (fun c8 => ?_))))
 ·try simp only [sB] at c8
  exact sr (ae N Z Z (aq (s := 2) Z (congrArg (fun z : List UInt8 => pT z) (show ([115,118] : List UInt8) = (aW n) by (simp [aW, *]; done))) (w_ret (am (af fp)))))
 try simp only [sB] at c8
 refine an (sr (xp N 2 [.o 2] [] [(17,pB (decide (n = 15)))] (re (av Z (fun c9 => ?_) (fun c9 => ?_)))))
 ·have c9_ := c9
  try simp only [sB] at c9
  refine aw (ak (av Z (fun _ => ?_) (fun e => absurd (e.symm.trans c9_) (by decide))))
  exact sr (ae N Z Z (aq (s := 2) Z (congrArg (fun z : List UInt8 => pT z) (show ([97,99] : List UInt8) = (aW n) by (simp [aW, *]; done))) (w_ret (am (af fp)))))
 have c9_ := c9
 try simp only [sB] at c9
 refine bk (qo N Z (bF Z Z ?_))
 refine ae N Z Z (av Z (fun c10 => ?_) (fun c10 => ?_))
 ·try simp only [sB] at c10
  exact sr (ae N Z Z (aq (s := 2) Z (congrArg (fun z : List UInt8 => pT z) (show ([97,99] : List UInt8) = (aW n) by (simp [aW, *]; done))) (w_ret (am (af fp)))))
 try simp only [sB] at c10
 refine sr (xp N 2 [.o 2] [] [(20,pB (decide (n = 17)))] (re (av Z (fun c11 => ?_) (fun c11 => ?_))))
 ·try simp only [sB] at c11
  exact sr (ae N Z Z (aq (s := 2) Z (congrArg (fun z : List UInt8 => pT z) (show ([100] : List UInt8) = (aW n) by (simp [aW, *]; done))) (w_ret (am (af fp)))))
 try simp only [sB] at c11
 exact aw (aG (ak (sr (ae N Z Z (aq (s := 2) Z (congrArg (fun z : List UInt8 => pT z) (show ([97,109] : List UInt8) = (aW n) by (simp [aW, *]; done))) (w_ret fp))))))
theorem qj (r : TReply) (hr : r.bits.length ≤ 140737488351232 ∧ r.vals.length ≤ 140737488351232 ∧ r.data.length ≤ 140737488351232) :
    T Tryz.prog 23 [PV.f (aK r)] 0 [] (Ret (pI (bI r)) 0 []) := by
 refine bn aF (n := 110) (rs := [.tmp 2]) Tryz.func23 Z Z Z Z (nb Z) ?_
 intro c N hk
 refine sr (qo N Z (cu Z Z ?_))
 let Y0 : Nat × PV := (1,PV.ptr 0 0)
 refine qa N Z Z (aE [Y0] [(0,.obj (bm r))] 1 ⟨Z,trivial⟩ Z Z (re (an (sr (xp N 3 [.o 3] [] [(7,pB (!decide (r.code = 0)))] ?_)))))
 refine re (av Z (fun c1 => ?_) (fun c1 => ?_))
 ·have c1_ := c1
  try simp only [sB] at c1
  refine an (sr (xp N 28 [.o 4,.b 3 [.o 3],.o 1,.b 3 [.o 3],.o 1,.b 3 [.o 3],.o 1,.b 8 [.o 6,.c (pB (decide (r = (⟨r.fn,r.code,0,0,0,[],[],0,0,[]⟩ : TReply)))),.o 1]] [((((decide (r.code < 0)) || (decide (255 < r.code))) || (decide (r.fn < 0))) || (decide (127 < r.fn))) = false → AllP [T Tryz.prog 53 [PV.f (aK r),PV.f (.agg [ay r.fn,ay r.code,ay 0,ay 0,ay 0,FV.v (.slice none 0 0),FV.v (.slice none 0 0),aj 0,aj 0,FV.v (.slice none 0 0)])] 0 [] (Ret (pB (decide (r = (⟨r.fn,r.code,0,0,0,[],[],0,0,[]⟩ : TReply)))) 0 [])]] [(35,pB (((((decide (r.code < 0)) || (decide (255 < r.code))) || (decide (r.fn < 0))) || (decide (127 < r.fn))) || (!(decide (r = (⟨r.fn,r.code,0,0,0,[],[],0,0,[]⟩ : TReply))))))] ?_ (hc := ⟨by intro hq; (try simp only [sB] at hq); exact ⟨(T.leL (args := [PV.f (aK r),PV.f (.agg [ay r.fn,ay r.code,ay 0,ay 0,ay 0,FV.v (.slice none 0 0),FV.v (.slice none 0 0),aj 0,aj 0,FV.v (.slice none 0 0)])]) (args' := [PV.f (aK r),PV.f (aK (⟨r.fn,r.code,0,0,0,[],[],0,0,[]⟩ : TReply))]) ⟨le_refl _,⟨ed (FLe.agg ⟨FLe.refl _,FLe.refl _,FLe.refl _,FLe.refl _,FLe.refl _,FLe.nil 1 false,FLe.nil 1 false,FLe.refl _,FLe.refl _,FLe.nil 1 false,trivial⟩),trivial⟩⟩ (lN r (⟨r.fn,r.code,0,0,0,[],[],0,0,[]⟩ : TReply) (by omega))),trivial⟩,trivial⟩)))
  refine re (av Z (fun c2 => ?_) (fun c2 => ?_))
  ·have c2_ := c2
   try simp only [sB] at c2
   exact sr (ae N Z Z (aq (s := 2) Z (congrArg pI (show 12 = (bI r) by exact (tx (lo := 0) (.inl rfl) c1_ c2_).symm)) (w_ret (af (af fp)))))
  have c2_ := c2
  try simp only [sB] at c2
  exact aw (ak (sr (ae N Z Z (aq (s := 2) Z (congrArg pI (show 0 = (bI r) by exact (tw (lo := 0) (.inl rfl) c1_ c2_).symm)) (w_ret (af fp))))))
 have c1_ := c1
 try simp only [sB] at c1
 refine aw (ak (sr (xp N 1 [.o 1] [] [(37,PV.f (aK r))] (qo N Z (aO Z Z Z (sA r (by omega)) Z ?_)))))
 refine xm N 6 [.o 6] [] [(3,PV.ptr 1 0),(4,pB (bO r.fn))] 2 [(1,.obj (bm (bw r))),(0,.obj (bm r))] (re (an (aP (sr (xp N 3 [.o 3] [] [(41,pB (!(bO r.fn)))] ?_)))))
 refine re (av Z (fun c3 => ?_) (fun c3 => ?_))
 ·have c3_ := c3
  try simp only [sB] at c3
  exact sr (ae N Z Z (aq (s := 2) Z (congrArg pI (show 15 = (bI r) by exact (tv c1_ c3_).symm)) (w_ret (am (af fp)))))
 have c3_ := c3
 try simp only [sB] at c3
 refine sr (xp N 2 [.o 2] [] [(45,PV.f (aK r)),(46,PV.f (aK (bw r)))] (qo N Z (aO Z Z Z (lN r (bw r) (by omega)) Z ?_)))
 refine xp N 20 [.o 2,.b 4 [.o 2,.c (pB (aY r.at_)),.o 1],.o 1,.b 4 [.o 2,.c (pB (aY r.sub)),.o 1],.o 1,.b 4 [.o 2,.c (pB (aY r.count)),.o 1],.o 1] [(!(decide (r = (bw r)))) = false → AllP [T Tryz.prog 55 [pI r.at_] 0 [] (Ret (pB (aY r.at_)) 0 [])],((!(decide (r = (bw r)))) || (!(aY r.at_))) = false → AllP [T Tryz.prog 55 [pI r.sub] 0 [] (Ret (pB (aY r.sub)) 0 [])],(((!(decide (r = (bw r)))) || (!(aY r.at_))) || (!(aY r.sub))) = false → AllP [T Tryz.prog 55 [pI r.count] 0 [] (Ret (pB (aY r.count)) 0 [])]] [(44,pB ((((!(decide (r = (bw r)))) || (!(aY r.at_))) || (!(aY r.sub))) || (!(aY r.count))))] ?_ (hc := ⟨by intro hq; (try simp only [sB] at hq); exact ⟨(w_reply_within r.at_),trivial⟩,by intro hq; (try simp only [sB] at hq); exact ⟨(w_reply_within r.sub),trivial⟩,by intro hq; (try simp only [sB] at hq); exact ⟨(w_reply_within r.count),trivial⟩,trivial⟩)
 refine re (av Z (fun c4 => ?_) (fun c4 => ?_))
 ·have c4_ := c4
  try simp only [sB] at c4
  exact sr (ae N Z Z (aq (s := 2) Z (congrArg pI (show 12 = (bI r) by exact (zI c1_ c3_ c4_).symm)) (w_ret (am (af fp)))))
 have c4_ := c4
 try simp only [sB] at c4
 let Y : Nat × PV := (77,pB ((decide (r.fn = 5)) && (!decide (((r.bits.length : Nat) : Int) = 1))))
 refine sr (xp N 10 [.o 4,.b 4 [.o 2,.c (pN r.bits.length),.o 1],.o 1] [(decide (r.fn = 5)) = true → AllP [cC ar r.bits]] [Y] ?_ (hc := ⟨by intro hq; (try simp only [sB] at hq); exact ⟨lenC_ok _ _,trivial⟩,trivial⟩))
 refine cy 15 [Y0,(92,pB (((decide (r.fn = 5)) && (!decide (((r.bits.length : Nat) : Int) = 1))) || (((decide (r.fn = 6)) || (decide (r.fn = 8))) && (!decide (((r.vals.length : Nat) : Int) = 1)))))] ?_ ?_
 ·refine bS aF N Z Z Z (fun g9 => ?_) (fun g9 => ?_)
  ·have g9' := g9
   try simp only [sB] at g9'
   refine qo N Z (aX aM Z Z aD (by decide) Z ?_)
   refine ry N Z Z Z g9 (qo N Z (bp aD Z Z Z Z Z ?_))
   refine ry N Z Z Z g9 (qo N Z (bF Z Z ?_))
   refine ry N Z Z Z g9 (qm N Z Z (cy 4 [Y0,Y,(85,pB ((decide (r.fn = 6)) || (decide (r.fn = 8))))] ?_ ?_))
   ·refine bS aF N Z Z Z (fun g10 => ?_) (fun g10 => ?_)
    ·have g10' := g10
     try simp only [sB] at g10'
     refine qo N Z (aX aM Z Z aD (by decide) Z ?_)
     refine ry N Z Z Z g10 (qo N Z (bp aD Z Z Z Z Z ?_))
     refine ry N Z Z Z g10 (qo N Z (bF Z Z ?_))
     refine ry N Z Z Z g9 (qo N Z (bd Z g10 Z ?_))
     refine bh (s := 85) Z (dA g10) ?_
     exact bC ⟨⟨Z,Z,Z,trivial⟩,Z,Z⟩
    ·have g10' := g10
     try simp only [sB] at g10'
     refine rn N Z Z Z g10 (rn N Z Z Z g10 (ry N Z Z Z g9 (qo N Z (bg Z g10 Z ?_))))
     refine bh (s := 85) (y := pB ((decide (r.fn = 6)) || (decide (r.fn = 8)))) Z (dz _ g10) ?_
     exact bC ⟨⟨Z,Z,Z,trivial⟩,Z,Z⟩
   ·refine ry N Z Z Z g9 (qm N Z Z (cy 5 [Y0,Y,(91,pB (((decide (r.fn = 6)) || (decide (r.fn = 8))) && (!decide (((r.vals.length : Nat) : Int) = 1))))] ?_ ?_))
    ·refine bS aF N Z Z Z (fun g11 => ?_) (fun g11 => ?_)
     ·have g11' := g11
      try simp only [sB] at g11'
      refine qo N Z (aX aM Z Z bf (by decide) Z ?_)
      refine ry N Z Z Z g11 (qo N Z (bp bf Z Z Z Z Z ?_))
      refine ry N Z Z Z g11 (qo N Z (ca (l := r.vals) bf Z (cf (f := aj) Z) ?_))
      refine ry N Z Z Z g11 (qo N Z (el Z Z ?_))
      refine ry N Z Z Z g9 (qo N Z (bg Z g11 Z ?_))
      refine bh (s := 91) Z (dI g11) ?_
      exact bC ⟨⟨Z,Z,Z,trivial⟩,Z,Z⟩
     ·have g11' := g11
      try simp only [sB] at g11'
      refine rn N Z Z Z g11 (rn N Z Z Z g11 (rn N Z Z Z g11 (ry N Z Z Z g9 (qo N Z (bd Z g11 Z ?_)))))
      refine bh (s := 91) (y := pB (((decide (r.fn = 6)) || (decide (r.fn = 8))) && (!decide (((r.vals.length : Nat) : Int) = 1)))) Z (dJ _ g11) ?_
      exact bC ⟨⟨Z,Z,Z,trivial⟩,Z,Z⟩
    ·refine qo N Z (bd Z g9 Z ?_)
     refine bh (s := 92) Z (dA g9) ?_
     exact bC ⟨⟨Z,Z,trivial⟩,Z,Z⟩
  ·have g9' := g9
   try simp only [sB] at g9'
   refine rn N Z Z Z g9 (rn N Z Z Z g9 (rn N Z Z Z g9 (ru N Z Z Z (ru N Z Z Z (ru N Z Z Z (rn N Z Z Z g9 (rn N Z Z Z g9 (ru N Z Z Z (ru N Z Z Z ?_)))))))))
   refine ru N Z Z Z (ru N Z Z Z (rn N Z Z Z g9 (qo N Z (bg Z g9 Z ?_))))
   refine bh (s := 92) (y := pB (((decide (r.fn = 5)) && (!decide (((r.bits.length : Nat) : Int) = 1))) || (((decide (r.fn = 6)) || (decide (r.fn = 8))) && (!decide (((r.vals.length : Nat) : Int) = 1))))) Z (dz _ g9) ?_
   exact bC ⟨⟨Z,Z,trivial⟩,Z,Z⟩
 ·refine ae N Z Z (av Z (fun c5 => ?_) (fun c5 => ?_))
  ·have c5_ := c5
   try simp only [sB] at c5
   exact sr (ae N Z Z (aq (s := 2) Z (congrArg pI (show 12 = (bI r) by exact (zH c1_ c3_ c5_).symm)) (w_ret (am (af fp)))))
  have c5_ := c5
  try simp only [sB] at c5
  refine sr (xp N 17 [.o 2,.c (pN r.bits.length),.o 2,.b 4 [.o 2,.c (pN r.vals.length),.o 1],.o 1,.b 4 [.o 2,.c (pN r.data.length),.o 1],.o 1] [cC ar r.bits,(decide (2040 < ((r.bits.length : Nat) : Int))) = false → AllP [cC aj r.vals],((decide (2040 < ((r.bits.length : Nat) : Int))) || (decide (127 < ((r.vals.length : Nat) : Int)))) = false → AllP [cC az r.data]] [(93,pB (((decide (2040 < ((r.bits.length : Nat) : Int))) || (decide (127 < ((r.vals.length : Nat) : Int)))) || (decide (250 < ((r.data.length : Nat) : Int)))))] ?_ (hc := ⟨lenC_ok _ _,by intro hq; (try simp only [sB] at hq); exact ⟨lenC_ok _ _,trivial⟩,by intro hq; (try simp only [sB] at hq); exact ⟨lenC_ok _ _,trivial⟩,trivial⟩))
  refine re (av Z (fun c6 => ?_) (fun c6 => ?_))
  ·have c6_ := c6
   try simp only [sB] at c6
   exact sr (ae N Z Z (aq (s := 2) Z (congrArg pI (show 12 = (bI r) by exact (zG c1_ c3_ c6_).symm)) (w_ret (am (af fp)))))
  have c6_ := c6
  try simp only [sB] at c6
  exact aw (aG (ak (sr (ae N Z Z (aq (s := 2) Z (congrArg pI (show 0 = (bI r) by exact (zF c1_ c3_ c4_ c5_ c6_).symm)) (w_ret fp))))))
theorem gi (r : TReply) (hr : r.bits.length ≤ 140737488351232 ∧ r.vals.length ≤ 140737488351232 ∧ r.data.length ≤ 140737488351232) :
    T Tryz.prog 9 [PV.f (aK r)] 0 [] (Ret (pI (bI r)) 0 []) := by
 refine bn aF (n := 179) (rs := [.tmp 2]) Tryz.func9 Z Z Z Z (nb Z) ?_
 intro c N hk
 refine sr (qo N Z (cu Z Z ?_))
 let Y0 : Nat × PV := (1,PV.ptr 0 0)
 refine qa N Z Z (aE [Y0] [(0,.obj (bm r))] 1 ⟨Z,trivial⟩ Z Z (re (an (sr (xp N 3 [.o 3] [] [(6,pB (!decide (r.code = 0)))] ?_)))))
 refine re (av Z (fun c1 => ?_) (fun c1 => ?_))
 ·have c1_ := c1
  try simp only [sB] at c1
  refine an (sr (xp N 28 [.o 4,.b 3 [.o 3],.o 1,.b 3 [.o 3],.o 1,.b 3 [.o 3],.o 1,.b 8 [.o 6,.c (pB (decide (r = (⟨r.fn,r.code,0,0,0,[],[],0,0,[]⟩ : TReply)))),.o 1]] [((((decide (r.code < 1)) || (decide (255 < r.code))) || (decide (r.fn < 0))) || (decide (127 < r.fn))) = false → AllP [T Tryz.prog 14 [PV.f (aK r),PV.f (.agg [ay r.fn,ay r.code,ay 0,ay 0,ay 0,FV.v (.slice none 0 0),FV.v (.slice none 0 0),aj 0,aj 0,FV.v (.slice none 0 0)])] 0 [] (Ret (pB (decide (r = (⟨r.fn,r.code,0,0,0,[],[],0,0,[]⟩ : TReply)))) 0 [])]] [(34,pB (((((decide (r.code < 1)) || (decide (255 < r.code))) || (decide (r.fn < 0))) || (decide (127 < r.fn))) || (!(decide (r = (⟨r.fn,r.code,0,0,0,[],[],0,0,[]⟩ : TReply))))))] ?_ (hc := ⟨by intro hq; (try simp only [sB] at hq); exact ⟨(T.leL (args := [PV.f (aK r),PV.f (.agg [ay r.fn,ay r.code,ay 0,ay 0,ay 0,FV.v (.slice none 0 0),FV.v (.slice none 0 0),aj 0,aj 0,FV.v (.slice none 0 0)])]) (args' := [PV.f (aK r),PV.f (aK (⟨r.fn,r.code,0,0,0,[],[],0,0,[]⟩ : TReply))]) ⟨le_refl _,⟨ed (FLe.agg ⟨FLe.refl _,FLe.refl _,FLe.refl _,FLe.refl _,FLe.refl _,FLe.nil 1 false,FLe.nil 1 false,FLe.refl _,FLe.refl _,FLe.nil 1 false,trivial⟩),trivial⟩⟩ (f9 r (⟨r.fn,r.code,0,0,0,[],[],0,0,[]⟩ : TReply) (by omega))),trivial⟩,trivial⟩)))
  refine re (av Z (fun c2 => ?_) (fun c2 => ?_))
  ·have c2_ := c2
   try simp only [sB] at c2
   exact sr (ae N Z Z (aq (s := 2) Z (congrArg pI (show 12 = (bI r) by exact (tx (lo := 1) (.inr rfl) c1_ c2_).symm)) (w_ret (af (af fp)))))
  have c2_ := c2
  try simp only [sB] at c2
  exact aw (ak (sr (ae N Z Z (aq (s := 2) Z (congrArg pI (show 0 = (bI r) by exact (tw (lo := 1) (.inr rfl) c1_ c2_).symm)) (w_ret (af fp))))))
 have c1_ := c1
 try simp only [sB] at c1
 refine aw (ak (an (sr (xp N 2 [.o 2] [] [(36,pI r.fn)] (qo N Z (aO Z Z Z (gz r.fn) Z ?_))))))
 refine qo N Z (eO Z ?_)
 refine re (av Z (fun c3 => ?_) (fun c3 => ?_))
 ·have c3_ := c3
  try simp only [sB] at c3
  exact sr (ae N Z Z (aq (s := 2) Z (congrArg pI (show 15 = (bI r) by exact (tv c1_ c3_).symm)) (w_ret (af fp))))
 have c3_ := c3
 try simp only [sB] at c3
 refine aw (ak (sr (xp N 2 [.o 2] [] [(40,pI r.fn)] (qo N Z (aO Z Z Z (ju r.fn) Z ?_)))))
 refine ae N Z Z (an (sr (qm N Z Z (qo N Z (aO Z Z Z (cp (aW r.fn) 97 (by have := fL r.fn; omega)) Z ?_)))))
 let Y1 : Nat × PV := (3,pT (aW r.fn))
 let Y4 : Nat × PV := (50,pB ((!(inS (aW r.fn) 97)) && (!decide (r.at_ = 0))))
 refine xp N 7 [.o 2,.b 3 [.o 3],.o 1] [] [Y4] (cy 9 [Y0,Y1,(59,pB (((!(inS (aW r.fn) 97)) && (!decide (r.at_ = 0))) || ((!(inS (aW r.fn) 99)) && (!decide (r.count = 0)))))] ?_ ?_)
 ·refine bS aF N Z Z Z (fun g6 => ?_) (fun g6 => ?_)
  ·have g6' := g6
   try simp only [sB] at g6'
   refine qm N Z Z (ry N Z Z Z g6 (qo N Z (aO Z Z Z (cp (aW r.fn) 99 (by have := fL r.fn; omega)) Z ?_)))
   refine ry N Z Z Z g6 (qo N Z (eO Z ?_))
   refine ry N Z Z Z g6 (qm N Z Z (cy 4 [Y0,Y1,Y4,(58,pB ((!(inS (aW r.fn) 99)) && (!decide (r.count = 0))))] ?_ ?_))
   ·refine bS aF N Z Z Z (fun g7 => ?_) (fun g7 => ?_)
    ·have g7' := g7
     try simp only [sB] at g7'
     refine qo N Z (aX aM Z Z aD (by decide) Z ?_)
     refine ry N Z Z Z g7 (qo N Z (bp aD Z Z Z Z Z ?_))
     refine ry N Z Z Z g7 (qo N Z (el Z Z ?_))
     refine ry N Z Z Z g6 (qo N Z (bg Z g7 Z ?_))
     refine bh (s := 58) Z (dI g7) ?_
     exact bC ⟨⟨Z,Z,Z,Z,trivial⟩,Z,Z⟩
    ·have g7' := g7
     try simp only [sB] at g7'
     refine rn N Z Z Z g7 (rn N Z Z Z g7 (ry N Z Z Z g6 (qo N Z (bd Z g7 Z ?_))))
     refine bh (s := 58) (y := pB ((!(inS (aW r.fn) 99)) && (!decide (r.count = 0)))) Z (dJ _ g7) ?_
     exact bC ⟨⟨Z,Z,Z,Z,trivial⟩,Z,Z⟩
   ·refine qo N Z (bd Z g6 Z ?_)
    refine bh (s := 59) Z (dA g6) ?_
    exact bC ⟨⟨Z,Z,Z,trivial⟩,Z,Z⟩
  ·have g6' := g6
   try simp only [sB] at g6'
   refine rn N Z Z Z g6 (rn N Z Z Z g6 (rn N Z Z Z g6 (ru N Z Z Z (ru N Z Z Z (ru N Z Z Z (rn N Z Z Z g6 (qo N Z (bg Z g6 Z ?_))))))))
   refine bh (s := 59) (y := pB (((!(inS (aW r.fn) 97)) && (!decide (r.at_ = 0))) || ((!(inS (aW r.fn) 99)) && (!decide (r.count = 0))))) Z (dz _ g6) ?_
   exact bC ⟨⟨Z,Z,Z,trivial⟩,Z,Z⟩
 ·refine qm N Z Z (cy 9 [Y0,Y1,(69,pB ((((!(inS (aW r.fn) 97)) && (!decide (r.at_ = 0))) || ((!(inS (aW r.fn) 99)) && (!decide (r.count = 0)))) || ((!(inS (aW r.fn) 115)) && (!decide (r.sub = 0)))))] ?_ ?_)
  ·refine bS aF N Z Z Z (fun g8 => ?_) (fun g8 => ?_)
   ·have g8' := g8
    try simp only [sB] at g8'
    refine qm N Z Z (ry N Z Z Z g8 (qo N Z (aO Z Z Z (cp (aW r.fn) 115 (by have := fL r.fn; omega)) Z ?_)))
    refine ry N Z Z Z g8 (qo N Z (eO Z ?_))
    refine ry N Z Z Z g8 (qm N Z Z (cy 4 [Y0,Y1,(60,pB (((!(inS (aW r.fn) 97)) && (!decide (r.at_ = 0))) || ((!(inS (aW r.fn) 99)) && (!decide (r.count = 0))))),(68,pB ((!(inS (aW r.fn) 115)) && (!decide (r.sub = 0))))] ?_ ?_))
    ·refine bS aF N Z Z Z (fun g9 => ?_) (fun g9 => ?_)
     ·have g9' := g9
      try simp only [sB] at g9'
      refine qo N Z (aX aM Z Z aD (by decide) Z ?_)
      refine ry N Z Z Z g9 (qo N Z (bp aD Z Z Z Z Z ?_))
      refine ry N Z Z Z g9 (qo N Z (el Z Z ?_))
      refine ry N Z Z Z g8 (qo N Z (bg Z g9 Z ?_))
      refine bh (s := 68) Z (dI g9) ?_
      exact bC ⟨⟨Z,Z,Z,Z,trivial⟩,Z,Z⟩
     ·have g9' := g9
      try simp only [sB] at g9'
      refine rn N Z Z Z g9 (rn N Z Z Z g9 (ry N Z Z Z g8 (qo N Z (bd Z g9 Z ?_))))
      refine bh (s := 68) (y := pB ((!(inS (aW r.fn) 115)) && (!decide (r.sub = 0)))) Z (dJ _ g9) ?_
      exact bC ⟨⟨Z,Z,Z,Z,trivial⟩,Z,Z⟩
    ·refine qo N Z (bd Z g8 Z ?_)
     refine bh (s := 69) Z (dA g8) ?_
     exact bC ⟨⟨Z,Z,Z,trivial⟩,Z,Z⟩
   ·have g8' := g8
    try simp only [sB] at g8'
    refine rn N Z Z Z g8 (rn N Z Z Z g8 (rn N Z Z Z g8 (ru N Z Z Z (ru N Z Z Z (ru N Z Z Z (rn N Z Z Z g8 (qo N Z (bg Z g8 Z ?_))))))))
    refine bh (s := 69) (y := pB ((((!(inS (aW r.fn) 97)) && (!decide (r.at_ = 0))) || ((!(inS (aW r.fn) 99)) && (!decide (r.count = 0)))) || ((!(inS (aW r.fn) 115)) && (!decide (r.sub = 0))))) Z (dz _ g8) ?_
    exact bC ⟨⟨Z,Z,Z,trivial⟩,Z,Z⟩
  ·refine qm N Z Z (cy 10 [Y0,Y1,(80,pB (((((!(inS (aW r.fn) 97)) && (!decide (r.at_ = 0))) || ((!(inS (aW r.fn) 99)) && (!decide (r.count = 0)))) || ((!(inS (aW r.fn) 115)) && (!decide (r.sub = 0)))) || ((!(inS (aW r.fn) 98)) && (decide (0 < ((r.bits.length : Nat) : Int))))))] ?_ ?_)
   ·refine bS aF N Z Z Z (fun g10 => ?_) (fun g10 => ?_)
    ·have g10' := g10
     try simp only [sB] at g10'
     refine qm N Z Z (ry N Z Z Z g10 (qo N Z (aO Z Z Z (cp (aW r.fn) 98 (by have := fL r.fn; omega)) Z ?_)))
     refine ry N Z Z Z g10 (qo N Z (eO Z ?_))
     refine ry N Z Z Z g10 (qm N Z Z (cy 5 [Y0,Y1,(70,pB ((((!(inS (aW r.fn) 97)) && (!decide (r.at_ = 0))) || ((!(inS (aW r.fn) 99)) && (!decide (r.count = 0)))) || ((!(inS (aW r.fn) 115)) && (!decide (r.sub = 0))))),(79,pB ((!(inS (aW r.fn) 98)) && (decide (0 < ((r.bits.length : Nat) : Int)))))] ?_ ?_))
     ·refine bS aF N Z Z Z (fun g11 => ?_) (fun g11 => ?_)
      ·have g11' := g11
       try simp only [sB] at g11'
       refine qo N Z (aX aM Z Z bT (by decide) Z ?_)
       refine ry N Z Z Z g11 (qo N Z (bp bT Z Z Z Z Z ?_))
       refine ry N Z Z Z g11 (qo N Z (ca (l := r.bits) bT Z (cf (f := ar) Z) ?_))
       refine ry N Z Z Z g11 (qo N Z (gM Z Z ?_))
       refine ry N Z Z Z g10 (qo N Z (bg Z g11 Z ?_))
       refine bh (s := 79) Z (dI g11) ?_
       exact bC ⟨⟨Z,Z,Z,Z,trivial⟩,Z,Z⟩
      ·have g11' := g11
       try simp only [sB] at g11'
       refine rn N Z Z Z g11 (rn N Z Z Z g11 (rn N Z Z Z g11 (ry N Z Z Z g10 (qo N Z (bd Z g11 Z ?_)))))
       refine bh (s := 79) (y := pB ((!(inS (aW r.fn) 98)) && (decide (0 < ((r.bits.length : Nat) : Int))))) Z (dJ _ g11) ?_
       exact bC ⟨⟨Z,Z,Z,Z,trivial⟩,Z,Z⟩
     ·refine qo N Z (bd Z g10 Z ?_)
      refine bh (s := 80) Z (dA g10) ?_
      exact bC ⟨⟨Z,Z,Z,trivial⟩,Z,Z⟩
    ·have g10' := g10
     try simp only [sB] at g10'
     refine rn N Z Z Z g10 (rn N Z Z Z g10 (rn N Z Z Z g10 (ru N Z Z Z (ru N Z Z Z (ru N Z Z Z (ru N Z Z Z (rn N Z Z Z g10 (qo N Z (bg Z g10 Z ?_)))))))))
     refine bh (s := 80) (y := pB (((((!(inS (aW r.fn) 97)) && (!decide (r.at_ = 0))) || ((!(inS (aW r.fn) 99)) && (!decide (r.count = 0)))) || ((!(inS (aW r.fn) 115)) && (!decide (r.sub = 0)))) || ((!(inS (aW r.fn) 98)) && (decide (0 < ((r.bits.length : Nat) : Int)))))) Z (dz _ g10) ?_
     exact bC ⟨⟨Z,Z,Z,trivial⟩,Z,Z⟩
   ·refine qm N Z Z (cy 10 [Y0,Y1,(91,pB ((((((!(inS (aW r.fn) 97)) && (!decide (r.at_ = 0))) || ((!(inS (aW r.fn) 99)) && (!decide (r.count = 0)))) || ((!(inS (aW r.fn) 115)) && (!decide (r.sub = 0)))) || ((!(inS (aW r.fn) 98)) && (decide (0 < ((r.bits.length : Nat) : Int))))) || ((!(inS (aW r.fn) 118)) && (decide (0 < ((r.vals.length : Nat) : Int))))))] ?_ ?_)
    ·refine bS aF N Z Z Z (fun g12 => ?_) (fun g12 => ?_)
     ·have g12' := g12
      try simp only [sB] at g12'
      refine qm N Z Z (ry N Z Z Z g12 (qo N Z (aO Z Z Z (cp (aW r.fn) 118 (by have := fL r.fn; omega)) Z ?_)))
      refine ry N Z Z Z g12 (qo N Z (eO Z ?_))
      refine ry N Z Z Z g12 (qm N Z Z (cy 5 [Y0,Y1,(81,pB (((((!(inS (aW r.fn) 97)) && (!decide (r.at_ = 0))) || ((!(inS (aW r.fn) 99)) && (!decide (r.count = 0)))) || ((!(inS (aW r.fn) 115)) && (!decide (r.sub = 0)))) || ((!(inS (aW r.fn) 98)) && (decide (0 < ((r.bits.length : Nat) : Int)))))),(90,pB ((!(inS (aW r.fn) 118)) && (decide (0 < ((r.vals.length : Nat) : Int)))))] ?_ ?_))
      ·refine bS aF N Z Z Z (fun g13 => ?_) (fun g13 => ?_)
       ·have g13' := g13
        try simp only [sB] at g13'
        refine qo N Z (aX aM Z Z bf (by decide) Z ?_)
        refine ry N Z Z Z g13 (qo N Z (bp bf Z Z Z Z Z ?_))
        refine ry N Z Z Z g13 (qo N Z (ca (l := r.vals) bf Z (cf (f := aj) Z) ?_))
        refine ry N Z Z Z g13 (qo N Z (gM Z Z ?_))
        refine ry N Z Z Z g12 (qo N Z (bg Z g13 Z ?_))
        refine bh (s := 90) Z (dI g13) ?_
        exact bC ⟨⟨Z,Z,Z,Z,trivial⟩,Z,Z⟩
       ·have g13' := g13
        try simp only [sB] at g13'
        refine rn N Z Z Z g13 (rn N Z Z Z g13 (rn N Z Z Z g13 (ry N Z Z Z g12 (qo N Z (bd Z g13 Z ?_)))))
        refine bh (s := 90) (y := pB ((!(inS (aW r.fn) 118)) && (decide (0 < ((r.vals.length : Nat) : Int))))) Z (dJ _ g13) ?_
        exact bC ⟨⟨Z,Z,Z,Z,trivial⟩,Z,Z⟩
      ·refine qo N Z (bd Z g12 Z ?_)
       refine bh (s := 91) Z (dA g12) ?_
       exact bC ⟨⟨Z,Z,Z,trivial⟩,Z,Z⟩
     ·have g12' := g12
      try simp only [sB] at g12'
      refine rn N Z Z Z g12 (rn N Z Z Z g12 (rn N Z Z Z g12 (ru N Z Z Z (ru N Z Z Z (ru N Z Z Z (ru N Z Z Z (rn N Z Z Z g12 (qo N Z (bg Z g12 Z ?_)))))))))
      refine bh (s := 91) (y := pB ((((((!(inS (aW r.fn) 97)) && (!decide (r.at_ = 0))) || ((!(inS (aW r.fn) 99)) && (!decide (r.count = 0)))) || ((!(inS (aW r.fn) 115)) && (!decide (r.sub = 0)))) || ((!(inS (aW r.fn) 98)) && (decide (0 < ((r.bits.length : Nat) : Int))))) || ((!(inS (aW r.fn) 118)) && (decide (0 < ((r.vals.length : Nat) : Int)))))) Z (dz _ g12) ?_
      exact bC ⟨⟨Z,Z,Z,trivial⟩,Z,Z⟩
    ·refine qm N Z Z (cy 14 [Y0,Y1,(106,pB (((((((!(inS (aW r.fn) 97)) && (!decide (r.at_ = 0))) || ((!(inS (aW r.fn) 99)) && (!decide (r.count = 0)))) || ((!(inS (aW r.fn) 115)) && (!decide (r.sub = 0)))) || ((!(inS (aW r.fn) 98)) && (decide (0 < ((r.bits.length : Nat) : Int))))) || ((!(inS (aW r.fn) 118)) && (decide (0 < ((r.vals.length : Nat) : Int))))) || ((!(inS (aW r.fn) 109)) && ((!decide (r.and_ = 0)) || (!decide (r.or_ = 0))))))] ?_ ?_)
     ·refine bS aF N Z Z Z (fun g14 => ?_) (fun g14 => ?_)
      ·have g14' := g14
       try simp only [sB] at g14'
       refine qm N Z Z (ry N Z Z Z g14 (qo N Z (aO Z Z Z (cp (aW r.fn) 109 (by have := fL r.fn; omega)) Z ?_)))
       refine ry N Z Z Z g14 (qo N Z (eO Z ?_))
       let Y : Nat × PV := (92,pB ((((((!(inS (aW r.fn) 97)) && (!decide (r.at_ = 0))) || ((!(inS (aW r.fn) 99)) && (!decide (r.count = 0)))) || ((!(inS (aW r.fn) 115)) && (!decide (r.sub = 0)))) || ((!(inS (aW r.fn) 98)) && (decide (0 < ((r.bits.length : Nat) : Int))))) || ((!(inS (aW r.fn) 118)) && (decide (0 < ((r.vals.length : Nat) : Int))))))
       refine ry N Z Z Z g14 (qm N Z Z (cy 9 [Y0,Y1,Y,(105,pB ((!(inS (aW r.fn) 109)) && ((!decide (r.and_ = 0)) || (!decide (r.or_ = 0)))))] ?_ ?_))
       ·refine bS aF N Z Z Z (fun g15 => ?_) (fun g15 => ?_)
        ·have g15' := g15
         try simp only [sB] at g15'
         refine qo N Z (aX aM Z Z bE (by decide) Z ?_)
         refine ry N Z Z Z g15 (qo N Z (bp bE Z Z Z Z Z ?_))
         refine ry N Z Z Z g15 (qo N Z (mD (a := r.and_) (b := 0) Z Z ?_))
         refine ry N Z Z Z g15 (qm N Z Z (cy 4 [Y0,Y1,Y,(96,pB (!(inS (aW r.fn) 109))),(104,pB ((!decide (r.and_ = 0)) || (!decide (r.or_ = 0))))] ?_ ?_))
         ·refine bS aF N Z Z Z (fun g16 => ?_) (fun g16 => ?_)
          ·have g16' := g16
           try simp only [sB] at g16'
           refine qo N Z (aX aM Z Z bE (by decide) Z ?_)
           refine ry N Z Z Z g16 (qo N Z (bp bE Z Z Z Z Z ?_))
           refine ry N Z Z Z g16 (qo N Z (mD (a := r.or_) (b := 0) Z Z ?_))
           refine ry N Z Z Z g15 (qo N Z (bd Z g16 Z ?_))
           refine bh (s := 104) Z (dA g16) ?_
           exact bC ⟨⟨Z,Z,Z,Z,Z,trivial⟩,Z,Z⟩
          ·have g16' := g16
           try simp only [sB] at g16'
           refine rn N Z Z Z g16 (rn N Z Z Z g16 (ry N Z Z Z g15 (qo N Z (bg Z g16 Z ?_))))
           refine bh (s := 104) (y := pB ((!decide (r.and_ = 0)) || (!decide (r.or_ = 0)))) Z (dz _ g16) ?_
           exact bC ⟨⟨Z,Z,Z,Z,Z,trivial⟩,Z,Z⟩
         ·refine ry N Z Z Z g14 (qo N Z (bg Z g15 Z ?_))
          refine bh (s := 105) Z (dI g15) ?_
          exact bC ⟨⟨Z,Z,Z,Z,trivial⟩,Z,Z⟩
        ·have g15' := g15
         try simp only [sB] at g15'
         refine rn N Z Z Z g15 (rn N Z Z Z g15 (rn N Z Z Z g15 (ru N Z Z Z (ru N Z Z Z (ru N Z Z Z (rn N Z Z Z g15 (ry N Z Z Z g14 (qo N Z (bd Z g15 Z ?_)))))))))
         refine bh (s := 105) (y := pB ((!(inS (aW r.fn) 109)) && ((!decide (r.and_ = 0)) || (!decide (r.or_ = 0))))) Z (dJ _ g15) ?_
         exact bC ⟨⟨Z,Z,Z,Z,trivial⟩,Z,Z⟩
       ·refine qo N Z (bd Z g14 Z ?_)
        refine bh (s := 106) Z (dA g14) ?_
        exact bC ⟨⟨Z,Z,Z,trivial⟩,Z,Z⟩
      ·have g14' := g14
       try simp only [sB] at g14'
       refine rn N Z Z Z g14 (rn N Z Z Z g14 (rn N Z Z Z g14 (ru N Z Z Z (ru N Z Z Z (ru N Z Z Z (ru N Z Z Z (ru N Z Z Z (ru N Z Z Z (ru N Z Z Z ?_)))))))))
       refine ru N Z Z Z (rn N Z Z Z g14 (qo N Z (bg Z g14 Z ?_)))
       refine bh (s := 106) (y := pB (((((((!(inS (aW r.fn) 97)) && (!decide (r.at_ = 0))) || ((!(inS (aW r.fn) 99)) && (!decide (r.count = 0)))) || ((!(inS (aW r.fn) 115)) && (!decide (r.sub = 0)))) || ((!(inS (aW r.fn) 98)) && (decide (0 < ((r.bits.length : Nat) : Int))))) || ((!(inS (aW r.fn) 118)) && (decide (0 < ((r.vals.length : Nat) : Int))))) || ((!(inS (aW r.fn) 109)) && ((!decide (r.and_ = 0)) || (!decide (r.or_ = 0)))))) Z (dz _ g14) ?_
       exact bC ⟨⟨Z,Z,Z,trivial⟩,Z,Z⟩
     ·refine qm N Z Z (cy 10 [Y0,(117,pB ((((((((!(inS (aW r.fn) 97)) && (!decide (r.at_ = 0))) || ((!(inS (aW r.fn) 99)) && (!decide (r.count = 0)))) || ((!(inS (aW r.fn) 115)) && (!decide (r.sub = 0)))) || ((!(inS (aW r.fn) 98)) && (decide (0 < ((r.bits.length : Nat) : Int))))) || ((!(inS (aW r.fn) 118)) && (decide (0 < ((r.vals.length : Nat) : Int))))) || ((!(inS (aW r.fn) 109)) && ((!decide (r.and_ = 0)) || (!decide (r.or_ = 0))))) || ((!(inS (aW r.fn) 100)) && (decide (0 < ((r.data.length : Nat) : Int))))))] ?_ ?_)
      ·refine bS aF N Z Z Z (fun g17 => ?_) (fun g17 => ?_)
       ·have g17' := g17
        try simp only [sB] at g17'
        refine qm N Z Z (ry N Z Z Z g17 (qo N Z (aO Z Z Z (cp (aW r.fn) 100 (by have := fL r.fn; omega)) Z ?_)))
        refine ry N Z Z Z g17 (qo N Z (eO Z ?_))
        refine ry N Z Z Z g17 (qm N Z Z (cy 5 [Y0,(107,pB (((((((!(inS (aW r.fn) 97)) && (!decide (r.at_ = 0))) || ((!(inS (aW r.fn) 99)) && (!decide (r.count = 0)))) || ((!(inS (aW r.fn) 115)) && (!decide (r.sub = 0)))) || ((!(inS (aW r.fn) 98)) && (decide (0 < ((r.bits.length : Nat) : Int))))) || ((!(inS (aW r.fn) 118)) && (decide (0 < ((r.vals.length : Nat) : Int))))) || ((!(inS (aW r.fn) 109)) && ((!decide (r.and_ = 0)) || (!decide (r.or_ = 0)))))),(116,pB ((!(inS (aW r.fn) 100)) && (decide (0 < ((r.data.length : Nat) : Int)))))] ?_ ?_))
        ·refine bS aF N Z Z Z (fun g18 => ?_) (fun g18 => ?_)
         ·have g18' := g18
          try simp only [sB] at g18'
          refine qo N Z (aX aM Z Z tab_38 (by decide) Z ?_)
          refine ry N Z Z Z g18 (qo N Z (bp tab_38 Z Z Z Z Z ?_))
          refine ry N Z Z Z g18 (qo N Z (ca (l := r.data) tab_38 Z (cf (f := az) Z) ?_))
          refine ry N Z Z Z g18 (qo N Z (gM Z Z ?_))
          refine ry N Z Z Z g17 (qo N Z (bg Z g18 Z ?_))
          refine bh (s := 116) Z (dI g18) ?_
          exact bC ⟨⟨Z,Z,Z,trivial⟩,Z,Z⟩
         ·have g18' := g18
          try simp only [sB] at g18'
          refine rn N Z Z Z g18 (rn N Z Z Z g18 (rn N Z Z Z g18 (ry N Z Z Z g17 (qo N Z (bd Z g18 Z ?_)))))
          refine bh (s := 116) (y := pB ((!(inS (aW r.fn) 100)) && (decide (0 < ((r.data.length : Nat) : Int))))) Z (dJ _ g18) ?_
          exact bC ⟨⟨Z,Z,Z,trivial⟩,Z,Z⟩
        ·refine qo N Z (bd Z g17 Z ?_)
         refine bh (s := 117) Z (dA g17) ?_
         exact bC ⟨⟨Z,Z,trivial⟩,Z,Z⟩
       ·have g17' := g17
        try simp only [sB] at g17'
        refine rn N Z Z Z g17 (rn N Z Z Z g17 (rn N Z Z Z g17 (ru N Z Z Z (ru N Z Z Z (ru N Z Z Z (ru N Z Z Z (rn N Z Z Z g17 (qo N Z (bg Z g17 Z ?_)))))))))
        refine bh (s := 117) (y := pB ((((((((!(inS (aW r.fn) 97)) && (!decide (r.at_ = 0))) || ((!(inS (aW r.fn) 99)) && (!decide (r.count = 0)))) || ((!(inS (aW r.fn) 115)) && (!decide (r.sub = 0)))) || ((!(inS (aW r.fn) 98)) && (decide (0 < ((r.bits.length : Nat) : Int))))) || ((!(inS (aW r.fn) 118)) && (decide (0 < ((r.vals.length : Nat) : Int))))) || ((!(inS (aW r.fn) 109)) && ((!decide (r.and_ = 0)) || (!decide (r.or_ = 0))))) || ((!(inS (aW r.fn) 100)) && (decide (0 < ((r.data.length : Nat) : Int)))))) Z (dz _ g17) ?_
        exact bC ⟨⟨Z,Z,trivial⟩,Z,Z⟩
      ·refine re (av Z (fun c4 => ?_) (fun c4 => ?_))
       ·have c4_ := c4
        try simp only [sB] at c4
        exact sr (ae N Z Z (aq (s := 2) Z (congrArg pI (show 12 = (bI r) by exact (zE c1_ c3_ c4_).symm)) (w_ret (af fp))))
       have c4_ := c4
       try simp only [sB] at c4
       refine aw (ak (an (sr (xp N 2 [.o 2] [] [(119,pI r.at_)] (qo N Z (aO Z Z Z (w_burgageref3_word r.at_) Z ?_))))))
       let Y3 : Nat × PV := (134,pB (((!(aY r.at_)) || (!(aY r.count))) || (!(aY r.sub))))
       refine xp N 14 [.o 2,.b 4 [.o 2,.c (pB (aY r.count)),.o 1],.o 1,.b 4 [.o 2,.c (pB (aY r.sub)),.o 1],.o 1] [(!(aY r.at_)) = false → AllP [T Tryz.prog 34 [pI r.count] 0 [] (Ret (pB (aY r.count)) 0 [])],((!(aY r.at_)) || (!(aY r.count))) = false → AllP [T Tryz.prog 34 [pI r.sub] 0 [] (Ret (pB (aY r.sub)) 0 [])]] [Y3] ?_ (hc := ⟨by intro hq; (try simp only [sB] at hq); exact ⟨(w_burgageref3_word r.count),trivial⟩,by intro hq; (try simp only [sB] at hq); exact ⟨(w_burgageref3_word r.sub),trivial⟩,trivial⟩)
       refine cy 10 [Y0,(144,pB ((((!(aY r.at_)) || (!(aY r.count))) || (!(aY r.sub))) || ((decide (r.fn = 5)) && (!decide (((r.bits.length : Nat) : Int) = 1)))))] ?_ ?_
       ·refine bS aF N Z Z Z (fun g21 => ?_) (fun g21 => ?_)
        ·have g21' := g21
         try simp only [sB] at g21'
         refine qo N Z (aX aM Z Z aD (by decide) Z ?_)
         refine ry N Z Z Z g21 (qo N Z (bp aD Z Z Z Z Z ?_))
         refine ry N Z Z Z g21 (qo N Z (bF Z Z ?_))
         refine ry N Z Z Z g21 (qm N Z Z (cy 5 [Y0,Y3,(143,pB ((decide (r.fn = 5)) && (!decide (((r.bits.length : Nat) : Int) = 1))))] ?_ ?_))
         ·refine bS aF N Z Z Z (fun g22 => ?_) (fun g22 => ?_)
          ·have g22' := g22
           try simp only [sB] at g22'
           refine qo N Z (aX aM Z Z bT (by decide) Z ?_)
           refine ry N Z Z Z g22 (qo N Z (bp bT Z Z Z Z Z ?_))
           refine ry N Z Z Z g22 (qo N Z (ca (l := r.bits) bT Z (cf (f := ar) Z) ?_))
           refine ry N Z Z Z g22 (qo N Z (el Z Z ?_))
           refine ry N Z Z Z g21 (qo N Z (bg Z g22 Z ?_))
           refine bh (s := 143) Z (dI g22) ?_
           exact bC ⟨⟨Z,Z,Z,trivial⟩,Z,Z⟩
          ·have g22' := g22
           try simp only [sB] at g22'
           refine rn N Z Z Z g22 (rn N Z Z Z g22 (rn N Z Z Z g22 (ry N Z Z Z g21 (qo N Z (bd Z g22 Z ?_)))))
           refine bh (s := 143) (y := pB ((decide (r.fn = 5)) && (!decide (((r.bits.length : Nat) : Int) = 1)))) Z (dJ _ g22) ?_
           exact bC ⟨⟨Z,Z,Z,trivial⟩,Z,Z⟩
         ·refine qo N Z (bd Z g21 Z ?_)
          refine bh (s := 144) Z (dA g21) ?_
          exact bC ⟨⟨Z,Z,trivial⟩,Z,Z⟩
        ·have g21' := g21
         try simp only [sB] at g21'
         refine rn N Z Z Z g21 (rn N Z Z Z g21 (rn N Z Z Z g21 (ru N Z Z Z (ru N Z Z Z (ru N Z Z Z (ru N Z Z Z (rn N Z Z Z g21 (qo N Z (bg Z g21 Z ?_)))))))))
         refine bh (s := 144) (y := pB ((((!(aY r.at_)) || (!(aY r.count))) || (!(aY r.sub))) || ((decide (r.fn = 5)) && (!decide (((r.bits.length : Nat) : Int) = 1))))) Z (dz _ g21) ?_
         exact bC ⟨⟨Z,Z,trivial⟩,Z,Z⟩
       ·refine qm N Z Z (cy 15 [Y0,(160,pB (((((!(aY r.at_)) || (!(aY r.count))) || (!(aY r.sub))) || ((decide (r.fn = 5)) && (!decide (((r.bits.length : Nat) : Int) = 1)))) || (((decide (r.fn = 6)) || (decide (r.fn = 8))) && (!decide (((r.vals.length : Nat) : Int) = 1)))))] ?_ ?_)
        ·refine bS aF N Z Z Z (fun g23 => ?_) (fun g23 => ?_)
         ·have g23' := g23
          try simp only [sB] at g23'
          refine qo N Z (aX aM Z Z aD (by decide) Z ?_)
          refine ry N Z Z Z g23 (qo N Z (bp aD Z Z Z Z Z ?_))
          refine ry N Z Z Z g23 (qo N Z (bF Z Z ?_))
          let Y2 : Nat × PV := (145,pB ((((!(aY r.at_)) || (!(aY r.count))) || (!(aY r.sub))) || ((decide (r.fn = 5)) && (!decide (((r.bits.length : Nat) : Int) = 1)))))
          refine ry N Z Z Z g23 (qm N Z Z (cy 4 [Y0,Y2,(153,pB ((decide (r.fn = 6)) || (decide (r.fn = 8))))] ?_ ?_))
          ·refine bS aF N Z Z Z (fun g24 => ?_) (fun g24 => ?_)
           ·have g24' := g24
            try simp only [sB] at g24'
            refine qo N Z (aX aM Z Z aD (by decide) Z ?_)
            refine ry N Z Z Z g24 (qo N Z (bp aD Z Z Z Z Z ?_))
            refine ry N Z Z Z g24 (qo N Z (bF Z Z ?_))
            refine ry N Z Z Z g23 (qo N Z (bd Z g24 Z ?_))
            refine bh (s := 153) Z (dA g24) ?_
            exact bC ⟨⟨Z,Z,Z,trivial⟩,Z,Z⟩
           ·have g24' := g24
            try simp only [sB] at g24'
            refine rn N Z Z Z g24 (rn N Z Z Z g24 (ry N Z Z Z g23 (qo N Z (bg Z g24 Z ?_))))
            refine bh (s := 153) (y := pB ((decide (r.fn = 6)) || (decide (r.fn = 8)))) Z (dz _ g24) ?_
            exact bC ⟨⟨Z,Z,Z,trivial⟩,Z,Z⟩
          ·refine ry N Z Z Z g23 (qm N Z Z (cy 5 [Y0,Y2,(159,pB (((decide (r.fn = 6)) || (decide (r.fn = 8))) && (!decide (((r.vals.length : Nat) : Int) = 1))))] ?_ ?_))
           ·refine bS aF N Z Z Z (fun g25 => ?_) (fun g25 => ?_)
            ·have g25' := g25
             try simp only [sB] at g25'
             refine qo N Z (aX aM Z Z bf (by decide) Z ?_)
             refine ry N Z Z Z g25 (qo N Z (bp bf Z Z Z Z Z ?_))
             refine ry N Z Z Z g25 (qo N Z (ca (l := r.vals) bf Z (cf (f := aj) Z) ?_))
             refine ry N Z Z Z g25 (qo N Z (el Z Z ?_))
             refine ry N Z Z Z g23 (qo N Z (bg Z g25 Z ?_))
             refine bh (s := 159) Z (dI g25) ?_
             exact bC ⟨⟨Z,Z,Z,trivial⟩,Z,Z⟩
            ·have g25' := g25
             try simp only [sB] at g25'
             refine rn N Z Z Z g25 (rn N Z Z Z g25 (rn N Z Z Z g25 (ry N Z Z Z g23 (qo N Z (bd Z g25 Z ?_)))))
             refine bh (s := 159) (y := pB (((decide (r.fn = 6)) || (decide (r.fn = 8))) && (!decide (((r.vals.length : Nat) : Int) = 1)))) Z (dJ _ g25) ?_
             exact bC ⟨⟨Z,Z,Z,trivial⟩,Z,Z⟩
           ·refine qo N Z (bd Z g23 Z ?_)
            refine bh (s := 160) Z (dA g23) ?_
            exact bC ⟨⟨Z,Z,trivial⟩,Z,Z⟩
         ·have g23' := g23
          try simp only [sB] at g23'
          refine rn N Z Z Z g23 (rn N Z Z Z g23 (rn N Z Z Z g23 (ru N Z Z Z (ru N Z Z Z (ru N Z Z Z (rn N Z Z Z g23 (rn N Z Z Z g23 (ru N Z Z Z (ru N Z Z Z ?_)))))))))
          refine ru N Z Z Z (ru N Z Z Z (rn N Z Z Z g23 (qo N Z (bg Z g23 Z ?_))))
          refine bh (s := 160) (y := pB (((((!(aY r.at_)) || (!(aY r.count))) || (!(aY r.sub))) || ((decide (r.fn = 5)) && (!decide (((r.bits.length : Nat) : Int) = 1)))) || (((decide (r.fn = 6)) || (decide (r.fn = 8))) && (!decide (((r.vals.length : Nat) : Int) = 1))))) Z (dz _ g23) ?_
          exact bC ⟨⟨Z,Z,trivial⟩,Z,Z⟩
        ·refine xp N 18 [.o 1,.b 4 [.o 2,.c (pN r.bits.length),.o 1],.o 1,.b 4 [.o 2,.c (pN r.vals.length),.o 1],.o 1,.b 4 [.o 2,.c (pN r.data.length),.o 1]] [(((((!(aY r.at_)) || (!(aY r.count))) || (!(aY r.sub))) || ((decide (r.fn = 5)) && (!decide (((r.bits.length : Nat) : Int) = 1)))) || (((decide (r.fn = 6)) || (decide (r.fn = 8))) && (!decide (((r.vals.length : Nat) : Int) = 1)))) = false → AllP [cC ar r.bits],((((((!(aY r.at_)) || (!(aY r.count))) || (!(aY r.sub))) || ((decide (r.fn = 5)) && (!decide (((r.bits.length : Nat) : Int) = 1)))) || (((decide (r.fn = 6)) || (decide (r.fn = 8))) && (!decide (((r.vals.length : Nat) : Int) = 1)))) || (decide (2040 < ((r.bits.length : Nat) : Int)))) = false → AllP [cC aj r.vals],(((((((!(aY r.at_)) || (!(aY r.count))) || (!(aY r.sub))) || ((decide (r.fn = 5)) && (!decide (((r.bits.length : Nat) : Int) = 1)))) || (((decide (r.fn = 6)) || (decide (r.fn = 8))) && (!decide (((r.vals.length : Nat) : Int) = 1)))) || (decide (2040 < ((r.bits.length : Nat) : Int)))) || (decide (127 < ((r.vals.length : Nat) : Int)))) = false → AllP [cC az r.data]] [(178,pB ((((((((!(aY r.at_)) || (!(aY r.count))) || (!(aY r.sub))) || ((decide (r.fn = 5)) && (!decide (((r.bits.length : Nat) : Int) = 1)))) || (((decide (r.fn = 6)) || (decide (r.fn = 8))) && (!decide (((r.vals.length : Nat) : Int) = 1)))) || (decide (2040 < ((r.bits.length : Nat) : Int)))) || (decide (127 < ((r.vals.length : Nat) : Int)))) || (decide (250 < ((r.data.length : Nat) : Int)))))] ?_ (hc := ⟨by intro hq; (try simp only [sB] at hq); exact ⟨lenC_ok _ _,trivial⟩,by intro hq; (try simp only [sB] at hq); exact ⟨lenC_ok _ _,trivial⟩,by intro hq; (try simp only [sB] at hq); exact ⟨lenC_ok _ _,trivial⟩,trivial⟩)
         refine re (av Z (fun c5 => ?_) (fun c5 => ?_))
         ·have c5_ := c5
          try simp only [sB] at c5
          exact sr (ae N Z Z (aq (s := 2) Z (congrArg pI (show 12 = (bI r) by exact (zD c1_ c3_ c5_).symm)) (w_ret (af fp))))
         have c5_ := c5
         try simp only [sB] at c5
         exact aw (ak (sr (ae N Z Z (aq (s := 2) Z (congrArg pI (show 0 = (bI r) by exact (zC c1_ c3_ c4_ c5_).symm)) (w_ret fp)))))
theorem uU {α : Type} (f : Int → α) (n : Int) (L : List Int) (a k : Nat) {os : List α}{ap : Nat} (h : os = (tRow f n L a k).1) (h2 : ap = (tRow f n L a k).2) : os ++ [f (ag L ap n)] = (tRow f n L a (k + 1)).1 := by subst h; subst h2; rfl
theorem uT {α : Type} (f : Int → α) (n : Int) (L : List Int) (a k : Nat) {ap : Nat} (h2 : ap = (tRow f n L a k).2) : ad L ap n = (tRow f n L a (k + 1)).2 := by subst h2; rfl
section
variable {q : TRequest}{what n : Int}
end
section
variable {F : Int}{l : List TWindow}{q : TRequest}
theorem jx : (splitP F l q).2 = bL F l q := by
  by_cases h : bL F l q = 0
  · rw [eJ h,h]
  · rw [gQ h]
theorem uW (h : bL F l q ≠ 0) : (splitP F l q).1 = [] := by rw [gQ h]
end
def gc : List TPart → Int
  | [] => 0
  | p :: t => (if p.write = true then 0 else max p.request.count 1) + gc t
def gZ : List TPart → Int
  | [] => 0
  | p :: t => (if p.write = true then max p.request.count 1 else 0) + gZ t
theorem li (a b : List TPart) : gc (a ++ b) = gc a + gc b := by
  induction a with
  | nil => simp [gc]
  | cons p t ih => simp only [List.cons_append,gc,ih]; omega
theorem kM (a b : List TPart) : gZ (a ++ b) = gZ a + gZ b := by
  induction a with
  | nil => simp [gZ]
  | cons p t ih => simp only [List.cons_append,gZ,ih]; omega
section
variable {L : List TPart}{i : Nat}{x : TPart}{d n : Int}
end
section
variable {F : Int}{l : List TWindow}{q : TRequest}
theorem km (q : TRequest) (p : TPiece) : (dc q p).write = true := by
  unfold dc
  repeat' split
  all_goals rfl
theorem sE (h : q.fn ≠ 5 ∧ q.fn ≠ 6) (p : TPiece) : (dc q p).request.count = p.count := by
  unfold dc
  rw [if_neg h.1,if_neg h.2]
  repeat' split
  all_goals rfl
theorem yb (L : List TPiece) : gc (L.map (dc q)) = 0 := by
  induction L with
  | nil => rfl
  | cons p t ih => rw [List.map_cons,gc,ih,if_pos (km q p)]; rfl
theorem xV (L : List TPiece) (f : Int) : gZ (L.map (cN f)) = 0 := by
  induction L with
  | nil => rfl
  | cons p t ih => rw [List.map_cons,gZ,ih,if_neg (by simp [cN])]; rfl
theorem yc (L : List TPiece) (f : Int) (h : ∀ p ∈ L,1 ≤ p.count) : gc (L.map (cN f)) = eI L := by
  induction L with
  | nil => rfl
  | cons p t ih =>
    have h1 := h p List.mem_cons_self
    have h2 := ih fun p hp => h p (List.mem_cons_of_mem _ hp)
    rw [List.map_cons,gc,h2,if_neg (by simp [cN]),show (cN f p).request.count = p.count from rfl,eI]
    omega
theorem xU (hf : q.fn ≠ 5 ∧ q.fn ≠ 6) (L : List TPiece) (h : ∀ p ∈ L,1 ≤ p.count) : gZ (L.map (dc q)) = eI L := by
  induction L with
  | nil => rfl
  | cons p t ih =>
    have h1 := h p List.mem_cons_self
    have h2 := ih fun p hp => h p (List.mem_cons_of_mem _ hp)
    rw [List.map_cons,gZ,h2,if_pos (km q p),sE hf,eI]
    omega
theorem mF {s a n : Int}{p : TPiece} (h : p ∈ mapL l s a n) : 1 ≤ p.count ∧ p.count ≤ 65536 ∧ 0 ≤ p.physical ∧ p.physical ≤ 512 ∧ ∃ (j : Nat) (w : TWindow),l[j]? = some w ∧ w.space = s ∧ w.physical ≤ p.physical ∧ p.physical + p.count ≤ w.physical + w.count := by
  have hb := zy h
  obtain ⟨i,hi⟩ := List.getElem?_of_mem h
  obtain ⟨_,_,_,_,_,w,_,_,m2,m3,m4,m5⟩ := nm hi
  obtain ⟨j,hj⟩ := List.getElem?_of_mem m3
  exact ⟨by omega,by omega,by omega,by omega,j,w,hj,m2,m4,m5⟩
theorem lk {s a n : Int} (h : bN l s a n = true) : eI (mapL l s a n) = n ∧ ∀ p ∈ mapL l s a n,1 ≤ p.count := by
  have := qb (mf h)
  exact ⟨by omega,fun p hp => (mF hp).1⟩
def Ck (l : List TWindow) (x : TPart) : Prop := (x.request.fn = 1 ∨ x.request.fn = 2 ∨ x.request.fn = 3 ∨ x.request.fn = 4 ∨ x.request.fn = 5 ∨ x.request.fn = 6 ∨ x.request.fn = 15 ∨ x.request.fn = 16) ∧ 0 ≤ x.request.count ∧ x.request.count ≤ 65536 ∧ 0 ≤ x.request.at_ ∧ x.request.at_ ≤ 512 ∧
  ∃ (j : Nat) (w : TWindow),l[j]? = some w ∧ w.space = cW x.request.fn ∧ w.physical ≤ x.request.at_ ∧ x.request.at_ + max x.request.count 1 ≤ w.physical + w.count
theorem n4 {f at_ n wAt sub : Int} {b v a o wr s}{p : TPiece}{aa nn : Int} (h : p ∈ mapL l s aa nn) (hs : s = cW f) (hf : f = 1 ∨ f = 2 ∨ f = 3 ∨ f = 4 ∨ f = 5 ∨ f = 6 ∨ f = 15 ∨ f = 16) (ha : at_ = p.physical) (hn : n = p.count ∨ n = 0) : Ck l ⟨⟨f,at_,n,wAt,sub,b,v,a,o⟩,wr⟩ := by
  obtain ⟨h1,h2,h3,h4,j,w,hj,m2,m4,m5⟩ := mF h
  refine ⟨hf,by simp only; omega,by simp only; omega,by simp only; omega,by simp only; omega,j,w,hj,by rw [m2,hs],by simp only; omega, ?_⟩
  simp only
  omega
theorem th {x : TPart} (h : x ∈ (splitP F l q).1) : Ck l x := by
  by_cases h0 : bL F l q = 0
  · obtain ⟨hno,hcy,hpy,hle⟩ := gx h0
    have hfo := hasF_of (gw hcy)
    rw [eJ h0] at h
    simp only at h
    by_cases h22 : q.fn = 22
    · obtain ⟨a,b,c⟩ := iC (l := l) h22
      obtain ⟨o1,o2,o3,_⟩ := jz (l := l) (q := q) (by omega) hpy
      rw [a] at o1 o2
      match hm : mapL l 3 q.at_ 1,o1 with
      | [y],_ =>
        have hy : y ∈ mapL l 3 q.at_ 1 := by rw [hm]; exact List.mem_cons_self
        have hyc : y.count = 1 := o2 y (by rw [hm]; rfl)
        rw [mb h22 (x := y) (by rw [b,hm]; rfl)] at h
        simp only [List.mem_cons,List.not_mem_nil,or_false] at h
        rcases h with rfl|rfl
        · exact n4 hy (nU (by omega)).symm (by omega) rfl (by omega)
        · exact n4 hy (nU (by omega)).symm (by omega) rfl (by omega)
    · rw [eA h22] at h
      rcases List.mem_append.1 h with h|h
      · obtain ⟨p,hp,rfl⟩ := List.mem_map.1 h
        by_cases h5 : q.fn = 5
        · rw [(gL (l := l) (.inl h5)).1] at hp
          rw [kw h5]
          exact n4 hp (by rw [h5]) (by omega) rfl (by omega)
        by_cases h6 : q.fn = 6
        · rw [(gL (l := l) (.inr h6)).1] at hp
          rw [kv h6]
          exact n4 hp (by rw [h6]) (by omega) rfl (by omega)
        by_cases h15 : q.fn = 15
        · rw [(gt (l := l) (.inl h15)).1] at hp
          rw [jN h15]
          exact n4 hp (by rw [h15]) (by omega) rfl (by omega)
        by_cases h16 : q.fn = 16
        · rw [(gt (l := l) (.inr h16)).1] at hp
          rw [jM h16]
          exact n4 hp (by rw [h16]) (by omega) rfl (by omega)
        by_cases h23 : q.fn = 23
        · rw [(gX (l := l) h23).1] at hp
          rw [jL h23]
          exact n4 hp (nU (by omega)).symm (by omega) rfl (by omega)
        by_cases h1 : q.fn = 1 ∨ q.fn = 2 ∨ q.fn = 3 ∨ q.fn = 4
        · rw [(jc (l := l) h1).1] at hp; cases hp
        · rw [(ik (l := l) (q := q) (by omega)).1] at hp; cases hp
      · obtain ⟨p,hp,rfl⟩ := List.mem_map.1 h
        by_cases h1 : q.fn = 1 ∨ q.fn = 2 ∨ q.fn = 3 ∨ q.fn = 4
        · rw [(jc (l := l) h1).2.1] at hp
          unfold cN
          rw [if_neg (by omega)]
          exact n4 hp rfl (by omega) rfl (by omega)
        by_cases h23 : q.fn = 23
        · rw [(gX (l := l) h23).2.1] at hp
          unfold cN
          rw [if_pos h23]
          exact n4 hp (nU (by omega)).symm (by omega) rfl (by omega)
        by_cases h5 : q.fn = 5 ∨ q.fn = 6
        · rw [(gL (l := l) h5).2.1] at hp; cases hp
        by_cases h15 : q.fn = 15 ∨ q.fn = 16
        · rw [(gt (l := l) h15).2.1] at hp; cases hp
        · rw [(ik (l := l) (q := q) (by omega)).2.1] at hp; cases hp
  · rw [gQ h0] at h; cases h
theorem vj (h : ((!decide ((splitP F l q).2 = 0)) || dP q.fn) = false) : q.fn ≠ 8 ∧ q.fn ≠ 17 ∧
    ((q.fn = 1 ∨ q.fn = 2 ∨ q.fn = 3 ∨ q.fn = 4) → gc (splitP F l q).1 = q.count ∧ gZ (splitP F l q).1 = 0) ∧ ((q.fn = 15 ∨ q.fn = 16) → gZ (splitP F l q).1 = q.count ∧ gc (splitP F l q).1 = 0) ∧
    (q.fn = 23 → gc (splitP F l q).1 = q.count ∧ gZ (splitP F l q).1 = ((q.vals.length : Nat) : Int)) ∧ (q.fn = 22 → gc (splitP F l q).1 = 1 ∧ gZ (splitP F l q).1 = 1) ∧ ((q.fn = 5 ∨ q.fn = 6) → gc (splitP F l q).1 = 0 ∧ gZ (splitP F l q).1 = 1) := by
  rw [jx] at h
  obtain ⟨h0,h8,h17⟩ := nT h
  obtain ⟨hno,hcy,hpy,hle⟩ := gx h0
  rw [eJ h0]
  refine ⟨h8,h17,fun h1 => ?_,fun h1 => ?_,fun h1 => ?_,fun h1 => ?_,fun h1 => ?_⟩
  · obtain ⟨a,b,c⟩ := jc (l := l) h1
    rw [c] at hpy
    obtain ⟨s1,s2⟩ := lk hpy
    simp only
    rw [eA (by omega),li,kM,a,b,xV,yc _ _ s2,s1]
    exact ⟨by simp [gc],by simp [gZ]⟩
  · obtain ⟨a,b,c⟩ := gt (l := l) h1
    rw [c] at hpy
    obtain ⟨s1,s2⟩ := lk hpy
    simp only
    rw [eA (by omega),li,kM,a,b,yb,xU (by omega) _ s2,s1]
    exact ⟨by simp [gZ],by simp [gc]⟩
  · obtain ⟨a,b,c⟩ := gX (l := l) h1
    rw [c,Bool.and_eq_true] at hpy
    obtain ⟨s1,s2⟩ := lk hpy.1
    obtain ⟨s3,s4⟩ := lk hpy.2
    simp only
    rw [eA (by omega),li,kM,a,b,yb,xU (by omega) _ s2,s1,xV,yc _ _ s4,s3]
    exact ⟨by omega,by omega⟩
  · obtain ⟨a,b,c⟩ := iC (l := l) h1
    obtain ⟨o1,o2,o3,_⟩ := jz (l := l) (q := q) (by omega) hpy
    rw [a] at o1
    match hm : mapL l 3 q.at_ 1,o1 with
    | [y],_ =>
      simp only
      rw [mb h1 (x := y) (by rw [b,hm]; rfl)]
      exact ⟨by simp [gc],by simp [gZ]; omega⟩
  · obtain ⟨a,b,c⟩ := gL (l := l) h1
    obtain ⟨o1,_,_,_⟩ := jz (l := l) (q := q) (by omega) hpy
    match hm : pW l q,o1 with
    | [y],_ =>
      simp only
      rw [tg hcy h1 hpy (x := y) (by rw [hm]; rfl)]
      exact ⟨by simp [gc],by simp [gZ]; omega⟩
end
def mw (p : TPart) (r : TReply) : Bool := (!(decide (r.fn = p.request.fn))) || (!(decide (bI r = 0)))
def bitsJ : List TPart → List TReply → List Bool
  | p :: ps,r :: rs => (if p.write = true then [] else r.bits) ++ bitsJ ps rs
  | _,_ => []
def valsJ : List TPart → List TReply → List UInt16
  | p :: ps,r :: rs => (if p.write = true then [] else r.vals) ++ valsJ ps rs
  | _,_ => []
def anyJ : List TPart → List TReply → Bool
  | p :: ps,r :: rs => mw p r || anyJ ps rs
  | _,_ => false
def ba (q : TRequest) (B : List Bool) (V : List UInt16) : TReply :=
  if q.fn = 5 then ⟨q.fn,0,q.at_,0,0,q.bits,[],0,0,[]⟩ else if q.fn = 6 then ⟨q.fn,0,q.at_,0,0,[],q.vals,0,0,[]⟩
  else if q.fn = 15 ∨ q.fn = 16 then ⟨q.fn,0,q.at_,q.count,0,[],[],0,0,[]⟩ else if q.fn = 22 then ⟨q.fn,0,q.at_,0,0,[],[],q.and_,q.or_,[]⟩
  else if ((B.length : Nat) : Int) + ((V.length : Nat) : Int) = q.count then ⟨q.fn,0,0,0,0,B,V,0,0,[]⟩ else aB q.fn 4
def gP (rs : List TReply) : Option TReply := rs.find? fun r => decide (r.code ≠ 0)
def dt (F : Int) (l : List TWindow) (q : TRequest) (rs : List TReply) : TReply :=
  if bL F l q ≠ 0 then aB q.fn (bL F l q) else if dP q.fn = true then aB q.fn 4
  else match gP (rs.take (splitP F l q).1.length) with
    | some r => aB q.fn r.code
    | none => if rs.length < (splitP F l q).1.length ∨ anyJ (splitP F l q).1 (rs.take (splitP F l q).1.length) = true then aB q.fn 4
      else ba q (bitsJ (splitP F l q).1 (rs.take (splitP F l q).1.length)) (valsJ (splitP F l q).1 (rs.take (splitP F l q).1.length))
section
theorem vW (ps : List TPart) : bitsJ ps [] = [] := by cases ps <;> rfl
theorem uN (ps : List TPart) : valsJ ps [] = [] := by cases ps <;> rfl
theorem xN (ps : List TPart) : anyJ ps [] = false := by cases ps <;> rfl
theorem ls : ∀ {ps : List TPart}{rs : List TReply}{i : Nat}{p : TPart}{r : TReply},ps[i]? = some p → rs[i]? = some r → bitsJ ps (rs.take (i + 1)) = bitsJ ps (rs.take i) ++ (if p.write = true then [] else r.bits)
  | a :: ps,b :: rs,0,p,r,h1,h2 => by
    simp only [List.getElem?_cons_zero,Option.some.injEq] at h1 h2
    subst h1; subst h2
    simp [bitsJ]
  | a :: ps,b :: rs,i + 1,p,r,h1,h2 => by
    simp only [List.getElem?_cons_succ] at h1 h2
    simp only [List.take_succ_cons,bitsJ,ls h1 h2,List.append_assoc]
  | [],_,_,_,_,h1,_ => by simp at h1
  | _,[],_,_,_,_,h2 => by simp at h2
theorem kZ : ∀ {ps : List TPart}{rs : List TReply}{i : Nat}{p : TPart}{r : TReply},ps[i]? = some p → rs[i]? = some r → valsJ ps (rs.take (i + 1)) = valsJ ps (rs.take i) ++ (if p.write = true then [] else r.vals)
  | a :: ps,b :: rs,0,p,r,h1,h2 => by
    simp only [List.getElem?_cons_zero,Option.some.injEq] at h1 h2
    subst h1; subst h2
    simp [valsJ]
  | a :: ps,b :: rs,i + 1,p,r,h1,h2 => by
    simp only [List.getElem?_cons_succ] at h1 h2
    simp only [List.take_succ_cons,valsJ,kZ h1 h2,List.append_assoc]
  | [],_,_,_,_,h1,_ => by simp at h1
  | _,[],_,_,_,_,h2 => by simp at h2
theorem mz : ∀ {ps : List TPart}{rs : List TReply}{i : Nat}{p : TPart}{r : TReply},ps[i]? = some p → rs[i]? = some r → anyJ ps (rs.take (i + 1)) = (anyJ ps (rs.take i) || mw p r)
  | a :: ps,b :: rs,0,p,r,h1,h2 => by
    simp only [List.getElem?_cons_zero,Option.some.injEq] at h1 h2
    subst h1; subst h2
    simp [anyJ]
  | a :: ps,b :: rs,i + 1,p,r,h1,h2 => by
    simp only [List.getElem?_cons_succ] at h1 h2
    simp only [List.take_succ_cons,anyJ,mz h1 h2,Bool.or_assoc]
  | [],_,_,_,_,h1,_ => by simp at h1
  | _,[],_,_,_,_,h2 => by simp at h2
theorem nG : ∀ {ps : List TPart}{rs : List TReply}{i : Nat}{p : TPart}{r : TReply},ps[i]? = some p → rs[i]? = some r → mw p r = true → anyJ ps rs = true
  | a :: ps,b :: rs,0,p,r,h1,h2,h => by
    simp only [List.getElem?_cons_zero,Option.some.injEq] at h1 h2
    subst h1; subst h2
    simp [anyJ,h]
  | a :: ps,b :: rs,i + 1,p,r,h1,h2,h => by
    simp only [List.getElem?_cons_succ] at h1 h2
    simp [anyJ,nG h1 h2 h]
  | [],_,_,_,_,h1,_,_ => by simp at h1
  | _,[],_,_,_,_,h2,_ => by simp at h2
end
section
variable {F : Int}{l : List TWindow}{q : TRequest}{rs : List TReply}
theorem pP (h : ¬ bL F l q = 0) : dt F l q rs = aB q.fn (bL F l q) := by unfold dt; rw [if_pos h]
theorem nr (h : bL F l q = 0) (h2 : dP q.fn = true) : dt F l q rs = aB q.fn 4 := by unfold dt; rw [if_neg (by rw [h]; decide),if_pos h2]
theorem xx (h : bL F l q = 0) (h2 : dP q.fn = false) {r : TReply} (h3 : gP (rs.take (splitP F l q).1.length) = some r) : dt F l q rs = aB q.fn r.code := by
  unfold dt; rw [if_neg (by rw [h]; decide),if_neg (by rw [h2]; decide),h3]
theorem nu (h : bL F l q = 0) (h2 : dP q.fn = false) (h3 : gP (rs.take (splitP F l q).1.length) = none) (h4 : rs.length < (splitP F l q).1.length ∨ anyJ (splitP F l q).1 (rs.take (splitP F l q).1.length) = true) : dt F l q rs = aB q.fn 4 := by
  unfold dt; rw [if_neg (by rw [h]; decide),if_neg (by rw [h2]; decide),h3]; simp only; rw [if_pos h4]
theorem rZ (h : bL F l q = 0) (h2 : dP q.fn = false) (h3 : gP (rs.take (splitP F l q).1.length) = none) (h4 : ¬ rs.length < (splitP F l q).1.length) (h5 : anyJ (splitP F l q).1 (rs.take (splitP F l q).1.length) = false) :
    dt F l q rs = ba q (bitsJ (splitP F l q).1 (rs.take (splitP F l q).1.length)) (valsJ (splitP F l q).1 (rs.take (splitP F l q).1.length)) := by
  unfold dt; rw [if_neg (by rw [h]; decide),if_neg (by rw [h2]; decide),h3]; simp only; rw [if_neg (by rw [h5]; simp; omega)]
end
def nzJ (x : TReply) : Bool := !(decide (x.code = 0))
theorem nB (rs : List TReply) : gP rs = rs.find? nzJ := by
  unfold gP nzJ
  congr 1
  funext x
  simp
theorem zq {rs : List TReply} (h : 0 ≤ idxI (rs.findIdx? nzJ)) : ∃ i e,idxI (rs.findIdx? nzJ) = ((i : Nat) : Int) ∧ rs[i]? = some e ∧ gP rs = some e := by
  cases hx : rs.findIdx? nzJ with
  | none => rw [hx] at h; simp [idxI] at h
  | some i =>
    obtain ⟨h1,h2,h3⟩ := List.findIdx?_eq_some_iff_getElem.1 hx
    refine ⟨i,rs[i],rfl,by simp [h1], ?_⟩
    rw [nB,List.find?_eq_some_iff_getElem]
    exact ⟨h2,i,h1,rfl,fun j hj => by simpa using h3 j hj⟩
theorem zr {rs : List TReply} (h : ¬ 0 ≤ idxI (rs.findIdx? nzJ)) : gP rs = none := by
  cases hx : rs.findIdx? nzJ with
  | none =>
    rw [nB,List.find?_eq_none]
    rw [List.findIdx?_eq_none_iff] at hx
    intro x hm
    simp [hx x hm]
  | some i => rw [hx] at h; simp [idxI] at h
theorem yr {q : TRequest}{r : TReply} (hn : ¬ (q.fn = 5 ∨ q.fn = 6 ∨ q.fn = 15 ∨ q.fn = 16 ∨ q.fn = 22)) (hc : ((r.bits.length : Nat) : Int) + ((r.vals.length : Nat) : Int) = q.count) (hz : r = ⟨q.fn,0,0,0,0,r.bits,r.vals,0,0,[]⟩) : ba q r.bits r.vals = r := by
  unfold ba
  rw [if_neg (by omega),if_neg (by omega),if_neg (by omega),if_neg (by omega),if_pos hc]
  exact hz.symm
theorem Br {rs : List TReply} (ht : ∀ j x,j < rs.length → rs[j]? = some x → nzJ x = false) : gP rs = none := by
  rw [nB,List.find?_eq_none]
  intro x hm
  obtain ⟨j,hj⟩ := List.getElem?_of_mem hm
  rw [ht j x (List.getElem?_eq_some_iff.1 hj).1 hj]
  decide
section
variable {F : Int}{l : List TWindow}{q : TRequest}{B : List Bool}{V : List UInt16}
theorem yu (h : q.fn = 5) : ba q B V = ⟨q.fn,0,q.at_,0,0,q.bits,[],0,0,[]⟩ := by unfold ba; rw [if_pos h]
theorem yt (h : q.fn = 6) : ba q B V = ⟨q.fn,0,q.at_,0,0,[],q.vals,0,0,[]⟩ := by unfold ba; rw [if_neg (by omega),if_pos h]
theorem wk (h : q.fn = 15 ∨ q.fn = 16) : ba q B V = ⟨q.fn,0,q.at_,q.count,0,[],[],0,0,[]⟩ := by unfold ba; rw [if_neg (by omega),if_neg (by omega),if_pos h]
theorem wj (h : q.fn = 22) : ba q B V = ⟨q.fn,0,q.at_,0,0,[],[],q.and_,q.or_,[]⟩ := by unfold ba; rw [if_neg (by omega),if_neg (by omega),if_neg (by omega),if_pos h]
theorem qV (h : ¬ (q.fn = 5 ∨ q.fn = 6 ∨ q.fn = 15 ∨ q.fn = 16 ∨ q.fn = 22)) (hc : ((B.length : Nat) : Int) + ((V.length : Nat) : Int) = q.count) : ba q B V = ⟨q.fn,0,0,0,0,B,V,0,0,[]⟩ := by
  unfold ba; rw [if_neg (by omega),if_neg (by omega),if_neg (by omega),if_neg (by omega),if_pos hc]
end
theorem oF (r : TReply)  :
    T Tryz.prog 22 [PV.f (aK r)] 0 [] (Ret (pB (nzJ r)) 0 []) := by
 refine bn aF (n := 6) (rs := [.tmp 2]) Tryz.func22 Z Z Z Z (nb Z) ?_
 intro c N hk
 refine sr (qo N Z (cu Z Z ?_))
 refine qa N Z Z (aE [(1,PV.ptr 0 0)] [(0,.obj (bm r))] 1 ⟨Z,trivial⟩ Z Z (re (sr (xp N 4 [.o 4] [] [(2,pB (!decide (r.code = 0)))] (re ?_)))))
 exact aq (s := 2) Z (congrArg pB (show (!decide (r.code = 0)) = (nzJ r) by rfl)) (w_ret fp)
theorem f8 (s : List TReply) (cl_s : Bool) (hs : s.length ≤ 140737488351232) :
    T Tryz.prog 21 [pS 10 cl_s aK s,PV.clo (.func 22) []] 0 [] (Ret (pI (idxI (s.findIdx? nzJ))) 0 []) := by
 refine bn aF (n := 19) (rs := [.tmp 4]) Tryz.func21 Z Z Z Z (nb Z) ?_
 intro c N hk
 refine sr (ae N Z Z (an (sr (qm N Z Z (qo N Z (ca (l := s) de Z (cf (f := aK) Z) ?_))))))
 refine qm N Z Z (re (aP (gu (fun (i : Nat) => i ≤ s.length ∧ ∀ j x,j < i → s[j]? = some x → nzJ x = false) (fun (i : Nat) => [(0,pS 10 cl_s aK s),(1,PV.clo (.func 22) []),(7,pN s.length),(8,pN i)]) 0 (fun (i : Nat) => []) (fun (i : Nat) => s.length - i) (0) ?_ ⟨[],Z,⟨⟨_,Z,Z,Z⟩,⟨_,Z,Z,Z⟩,⟨_,Z,Z,Z⟩,⟨_,Z,Z,Z⟩,trivial⟩,trivial,by rw [hk]; decide⟩ ?_)))
 · exact ⟨Nat.zero_le _,fun j x hj => by omega⟩
 ·intro i hI
  obtain ⟨hi,ht⟩ := hI
  refine sr (qo N Z (cZ Z Z ?_))
  refine re (an (av Z (fun c1 => ?_) (fun c1 => ?_)))
  ·try simp only [sB] at c1
   refine aw (ak (an (aP (sr (xp N 2 [.o 2] [] [(5,pN i)] ?_)))))
   refine re (sr (qm N Z Z (qm N Z Z (qm N Z Z ?_))))
   obtain ⟨e1,he1⟩ := bl s (i := i) (by omega)
   refine qo N Z (cA (q := i) (b := e1) (f := aK) de Z aM Z Z (by omega) Z he1 ?_)
   refine qo N Z (gk aM Z Z Z ?_)
   refine qo N Z (aO Z Z Z (oF e1) Z ?_)
   refine re (av Z (fun c2 => ?_) (fun c2 => ?_))
   ·have c2_ := c2
    try simp only [sB] at c2
    refine sr (xp N 2 [.o 2] [] [(4,pN i)] (re (aq (s := 4) Z (congrArg pI (show ((i : Nat) : Int) = (idxI (s.findIdx? nzJ)) by rw [jg (p := nzJ) ht he1 c2_])) (w_ret (am ?_)))))
    exact af (af (am (af fp)))
   have c2_ := c2
   try simp only [sB] at c2
   refine aw (aG (ak (bk (qo N Z (cm (a := i) (b := 1) Z Z (by omega) (by omega) (by omega) ?_)))))
   refine qm N Z Z (re (⟨(i + 1), ?_, ?_,⟨[],Z,⟨⟨_,Z,Z,Z⟩,⟨_,Z,Z,Z⟩,⟨_,Z,Z,Z⟩,⟨_,Z,Z,Z⟩,trivial⟩,trivial,by rw [hk]; decide⟩⟩))
   ·refine ⟨by omega,fun j x hj hx => ?_⟩
    by_cases hji : j < i
    · exact ht j x hji hx
    · obtain rfl : j = i := by omega
      rw [he1] at hx; cases hx; exact c2_
   · omega
  try simp only [sB] at c1
  exact cG (aL (aL (bq (ak (sr (ae N Z Z (aq (s := 4) Z (congrArg pI (show (-1) = (idxI (s.findIdx? nzJ)) by rw [jh (p := nzJ) (fun j x hj hx => ht j x (by omega) hx)])) (w_ret fp))))))))
theorem q7 (q : TRequest) (r : TReply) (hq : q.bits.length ≤ 140737488351232 ∧ q.vals.length ≤ 70368744175616) (hr : r.bits.length ≤ 1000000 ∧ r.vals.length ≤ 1000000) (hz : r = ⟨q.fn,0,0,0,0,r.bits,r.vals,0,0,[]⟩) :
    T Tryz.prog 24 [PV.f (bx q),PV.f (aK r)] 0 [] (Ret (PV.f (aK (ba q r.bits r.vals))) 0 []) := by
 refine bn aF (n := 72) (rs := [.cell 4 40]) Tryz.func24 Z Z Z Z (nb Z) ?_
 intro c N hk
 refine sr (qo N Z (cu Z Z ?_))
 refine qo N Z (cu Z Z ?_)
 refine qo N Z (cg aM ?_)
 let Y : Nat × Pv.Obj := (2,.obj [pI 0,pI 0,pI 0,pI 0,pI 0,aH,aH,au 0,au 0,aH])
 let Y0 : Nat × Pv.Obj := (0,.obj (cd q))
 let Y1 : Nat × Pv.Obj := (1,.obj (bm r))
 let Y3 : Nat × PV := (4,PV.ptr 2 0)
 refine aE [(2,PV.ptr 0 0),(3,PV.ptr 1 0),Y3] [Y,Y1,Y0] 3 ⟨Z,Z,Z,trivial⟩ Z Z (re (an (sr (xp N 2 [.o 2] [] [(6,pI q.fn)] (re ?_)))))
 refine aP (sr (xp N 2 [.o 2] [] [(7,pB (decide (q.fn = 5)))] (re (av Z (fun c1 => ?_) (fun c1 => ?_)))))
 ·try simp only [sB] at c1
  let Y4 : Nat × Pv.Obj := (3,oB false 1 ar q.bits)
  let Y6 : Nat × Pv.Obj := (3,oB true 1 ar q.bits)
  refine an (cK N (xq 6 [.o 6] [] (xk [(14,pS 1 false ar q.bits)] [] [] [Y6] [Y6,Y,Y1,Y0] (aN 4 (PV.ref 3 0 none) _ [] (eV q.bits false (by omega)) ⟨Z,Z,Z⟩) (xk [(15,PV.ref 3 0 none)] [] [Y6] [Y4] [Y4,Y,Y1,Y0] (aN 4 (pS 1 true ar q.bits) _ [] (eZ q.bits false) ⟨Z,Z,Z⟩) (xk [(10,pI q.fn),(12,pI q.at_),(16,pS 1 true ar q.bits)] [] [] [] [Y4,Y,Y1,Y0] (bX aM Z Z (br Z aD Z Z Z (nb Z) (br Z aD Z Z Z (nb Z) (br Z bT Z Z Z (nb Z) (fX (cs' := [pI q.fn,pI 0,pI q.at_,pI 0,pI 0,pS 1 true ar q.bits,aH,au 0,au 0,aH]) Z ⟨Z,Z,Z⟩))))) ?_)))))
  refine xd 1 [.o 1] [] 4 [(2,.obj [pI q.fn,pI 0,pI q.at_,pI 0,pI 0,pS 1 true ar q.bits,aH,au 0,au 0,aH]),Y4,Y1,Y0] (xe [Y3] (re ?_))
  have hz1 : q.fn = ((ba q r.bits r.vals).fn) ∧ 0 = ((ba q r.bits r.vals).code) ∧ q.at_ = ((ba q r.bits r.vals).at_) ∧ 0 = ((ba q r.bits r.vals).count) ∧ 0 = ((ba q r.bits r.vals).sub) ∧ q.bits = ((ba q r.bits r.vals).bits) ∧ ([] : List UInt16) = ((ba q r.bits r.vals).vals) ∧ 0 = ((ba q r.bits r.vals).and_) ∧ 0 = ((ba q r.bits r.vals).or_) ∧ ([] : List UInt8) = ((ba q r.bits r.vals).data) := by and_intros <;> ((unfold ba; rw [if_pos (by omega)]; done))
  exact bH (n := 2) (ds := bm (ba q r.bits r.vals)) Z ⟨le_of_eq (congrArg pI hz1.1),le_of_eq (congrArg pI hz1.2.1),le_of_eq (congrArg pI hz1.2.2.1),le_of_eq (congrArg pI hz1.2.2.2.1),le_of_eq (congrArg pI hz1.2.2.2.2.1),be (dB) (le_of_eq (congrArg (fun z => pS 1 false ar z) hz1.2.2.2.2.2.1)),be (ax 1 false) (le_of_eq (congrArg (fun z => pS 1 false aj z) hz1.2.2.2.2.2.2.1)),le_of_eq (congrArg au hz1.2.2.2.2.2.2.2.1),le_of_eq (congrArg au hz1.2.2.2.2.2.2.2.2.1),be (ax 1 false) (le_of_eq (congrArg (fun z => pS 1 false az z) hz1.2.2.2.2.2.2.2.2.2)),trivial⟩ (w_ret (am (af fp)))
 try simp only [sB] at c1
 refine sr (xp N 2 [.o 2] [] [(18,pB (decide (q.fn = 6)))] (re (av Z (fun c2 => ?_) (fun c2 => ?_))))
 ·try simp only [sB] at c2
  let Y5 : Nat × Pv.Obj := (3,oB false 1 aj q.vals)
  let Y7 : Nat × Pv.Obj := (3,oB true 1 aj q.vals)
  refine an (cK N (xq 6 [.o 6] [] (xk [(25,pS 1 false aj q.vals)] [] [] [Y7] [Y7,Y,Y1,Y0] (aN 4 (PV.ref 3 0 none) _ [] (dC q.vals false (by omega)) ⟨Z,Z,Z⟩) (xk [(26,PV.ref 3 0 none)] [] [Y7] [Y5] [Y5,Y,Y1,Y0] (aN 4 (pS 1 true aj q.vals) _ [] (eH q.vals false) ⟨Z,Z,Z⟩) (xk [(21,pI q.fn),(23,pI q.at_),(27,pS 1 true aj q.vals)] [] [] [] [Y5,Y,Y1,Y0] (bX aM Z Z (br Z aD Z Z Z (nb Z) (br Z aD Z Z Z (nb Z) (br Z bf Z Z Z (nb Z) (fX (cs' := [pI q.fn,pI 0,pI q.at_,pI 0,pI 0,aH,pS 1 true aj q.vals,au 0,au 0,aH]) Z ⟨Z,Z,Z⟩))))) ?_)))))
  refine xd 1 [.o 1] [] 4 [(2,.obj [pI q.fn,pI 0,pI q.at_,pI 0,pI 0,aH,pS 1 true aj q.vals,au 0,au 0,aH]),Y5,Y1,Y0] (xe [Y3] (re ?_))
  have hz2 : q.fn = ((ba q r.bits r.vals).fn) ∧ 0 = ((ba q r.bits r.vals).code) ∧ q.at_ = ((ba q r.bits r.vals).at_) ∧ 0 = ((ba q r.bits r.vals).count) ∧ 0 = ((ba q r.bits r.vals).sub) ∧ ([] : List Bool) = ((ba q r.bits r.vals).bits) ∧ q.vals = ((ba q r.bits r.vals).vals) ∧ 0 = ((ba q r.bits r.vals).and_) ∧ 0 = ((ba q r.bits r.vals).or_) ∧ ([] : List UInt8) = ((ba q r.bits r.vals).data) := by and_intros <;> ((unfold ba; rw [if_neg (by omega),if_pos (by omega)]; done))
  exact bH (n := 2) (ds := bm (ba q r.bits r.vals)) Z ⟨le_of_eq (congrArg pI hz2.1),le_of_eq (congrArg pI hz2.2.1),le_of_eq (congrArg pI hz2.2.2.1),le_of_eq (congrArg pI hz2.2.2.2.1),le_of_eq (congrArg pI hz2.2.2.2.2.1),be (ax 1 false) (le_of_eq (congrArg (fun z => pS 1 false ar z) hz2.2.2.2.2.2.1)),be (dB) (le_of_eq (congrArg (fun z => pS 1 false aj z) hz2.2.2.2.2.2.2.1)),le_of_eq (congrArg au hz2.2.2.2.2.2.2.2.1),le_of_eq (congrArg au hz2.2.2.2.2.2.2.2.2.1),be (ax 1 false) (le_of_eq (congrArg (fun z => pS 1 false az z) hz2.2.2.2.2.2.2.2.2.2)),trivial⟩ (w_ret (am (af fp)))
 try simp only [sB] at c2
 refine xo N 29 [[.o 2],[.o 2]] [] ((decide (q.fn = 15)) || (decide (q.fn = 16))) (av Z (fun c4 => ?_) (fun c4 => ?_))
 ·try simp only [sB,Bool.or_eq_true,Bool.or_eq_false_iff] at c4
  refine sr (xp N 6 [.o 6] [] [(33,pI q.fn),(35,pI q.at_),(37,pI q.count)] (qo N Z (bX aM Z Z (br Z aD Z Z Z (nb Z) (br Z aD Z Z Z (nb Z) (br Z aD Z Z Z (nb Z) (fX (cs' := [pI q.fn,pI 0,pI q.at_,pI q.count,pI 0,aH,aH,au 0,au 0,aH]) Z ?_)))))))
  refine qo N Z (aC aM Z Z Z Z Z (nb Z) ?_)
  refine aE [Y3] [(2,.obj [pI q.fn,pI 0,pI q.at_,pI q.count,pI 0,aH,aH,au 0,au 0,aH]),Y1,Y0] 3 ⟨Z,trivial⟩ Z Z (re ?_)
  have hz3 : q.fn = ((ba q r.bits r.vals).fn) ∧ 0 = ((ba q r.bits r.vals).code) ∧ q.at_ = ((ba q r.bits r.vals).at_) ∧ q.count = ((ba q r.bits r.vals).count) ∧ 0 = ((ba q r.bits r.vals).sub) ∧ ([] : List Bool) = ((ba q r.bits r.vals).bits) ∧ ([] : List UInt16) = ((ba q r.bits r.vals).vals) ∧ 0 = ((ba q r.bits r.vals).and_) ∧ 0 = ((ba q r.bits r.vals).or_) ∧ ([] : List UInt8) = ((ba q r.bits r.vals).data) := by and_intros <;> ((unfold ba; rw [if_neg (by omega),if_neg (by omega),if_pos (by omega)]; done))
  exact bH (n := 2) (ds := bm (ba q r.bits r.vals)) Z ⟨le_of_eq (congrArg pI hz3.1),le_of_eq (congrArg pI hz3.2.1),le_of_eq (congrArg pI hz3.2.2.1),le_of_eq (congrArg pI hz3.2.2.2.1),le_of_eq (congrArg pI hz3.2.2.2.2.1),be (ax 1 false) (le_of_eq (congrArg (fun z => pS 1 false ar z) hz3.2.2.2.2.2.1)),be (ax 1 false) (le_of_eq (congrArg (fun z => pS 1 false aj z) hz3.2.2.2.2.2.2.1)),le_of_eq (congrArg au hz3.2.2.2.2.2.2.2.1),le_of_eq (congrArg au hz3.2.2.2.2.2.2.2.2.1),be (ax 1 false) (le_of_eq (congrArg (fun z => pS 1 false az z) hz3.2.2.2.2.2.2.2.2.2)),trivial⟩ (w_ret (am (af fp)))
 try simp only [sB,Bool.or_eq_true,Bool.or_eq_false_iff] at c4
 refine sr (qo N Z (bF Z Z ?_))
 refine ae N Z Z (av Z (fun c5 => ?_) (fun c5 => ?_))
 ·try simp only [sB] at c5
  refine sr (xp N 8 [.o 8] [] [(42,pI q.fn),(44,pI q.at_),(46,au q.and_),(48,au q.or_)] (qo N Z (bX aM Z Z (br Z aD Z Z Z (nb Z) (br Z aD Z Z Z (nb Z) (br Z bE Z Z Z (nb Z) (br Z bE Z Z Z (nb Z) (fX (cs' := [pI q.fn,pI 0,pI q.at_,pI 0,pI 0,aH,aH,au q.and_,au q.or_,aH]) Z ?_))))))))
  refine qo N Z (aC aM Z Z Z Z Z (nb Z) ?_)
  refine aE [Y3] [(2,.obj [pI q.fn,pI 0,pI q.at_,pI 0,pI 0,aH,aH,au q.and_,au q.or_,aH]),Y1,Y0] 3 ⟨Z,trivial⟩ Z Z (re ?_)
  have hz4 : q.fn = ((ba q r.bits r.vals).fn) ∧ 0 = ((ba q r.bits r.vals).code) ∧ q.at_ = ((ba q r.bits r.vals).at_) ∧ 0 = ((ba q r.bits r.vals).count) ∧ 0 = ((ba q r.bits r.vals).sub) ∧ ([] : List Bool) = ((ba q r.bits r.vals).bits) ∧ ([] : List UInt16) = ((ba q r.bits r.vals).vals) ∧ q.and_ = ((ba q r.bits r.vals).and_) ∧ q.or_ = ((ba q r.bits r.vals).or_) ∧ ([] : List UInt8) = ((ba q r.bits r.vals).data) := by and_intros <;> ((unfold ba; rw [if_neg (by omega),if_neg (by omega),if_neg (by omega),if_pos (by omega)]; done))
  exact bH (n := 2) (ds := bm (ba q r.bits r.vals)) Z ⟨le_of_eq (congrArg pI hz4.1),le_of_eq (congrArg pI hz4.2.1),le_of_eq (congrArg pI hz4.2.2.1),le_of_eq (congrArg pI hz4.2.2.2.1),le_of_eq (congrArg pI hz4.2.2.2.2.1),be (ax 1 false) (le_of_eq (congrArg (fun z => pS 1 false ar z) hz4.2.2.2.2.2.1)),be (ax 1 false) (le_of_eq (congrArg (fun z => pS 1 false aj z) hz4.2.2.2.2.2.2.1)),le_of_eq (congrArg au hz4.2.2.2.2.2.2.2.1),le_of_eq (congrArg au hz4.2.2.2.2.2.2.2.2.1),be (ax 1 false) (le_of_eq (congrArg (fun z => pS 1 false az z) hz4.2.2.2.2.2.2.2.2.2)),trivial⟩ (w_ret (am (af fp)))
 try simp only [sB] at c5
 refine aw (aG (ak (an (sr (xp N 10 [.o 2,.c (pN r.bits.length),.o 2,.c (pN r.vals.length),.o 4] [cC ar r.bits,cC aj r.vals,bu (((r.bits.length : Nat) : Int) + ((r.vals.length : Nat) : Int))] [(59,pB (!decide (((r.bits.length + r.vals.length : Nat) : Int) = q.count)))] ?_ (hc := ⟨lenC_ok _ _,lenC_ok _ _,by unfold bu; (omega),trivial⟩))))))
 refine re (av Z (fun c6 => ?_) (fun c6 => ?_))
 ·try simp only [sB] at c6
  refine sr (xp N 2 [.o 2] [] [(61,pI q.fn)] (qo N Z (aO Z Z Z (ey q.fn 4) Z ?_)))
  refine qo N Z (aC aM Z Z Z Z Z (nb Z) ?_)
  refine aE [Y3] [(2,.obj (bm (aB q.fn 4))),Y1,Y0] 3 ⟨Z,trivial⟩ Z Z (re ?_)
  have hz5 : ((aB q.fn 4).fn) = ((ba q r.bits r.vals).fn) ∧ ((aB q.fn 4).code) = ((ba q r.bits r.vals).code) ∧ ((aB q.fn 4).at_) = ((ba q r.bits r.vals).at_) ∧ ((aB q.fn 4).count) = ((ba q r.bits r.vals).count) ∧ ((aB q.fn 4).sub) = ((ba q r.bits r.vals).sub) ∧ ((aB q.fn 4).bits) = ((ba q r.bits r.vals).bits) ∧ ((aB q.fn 4).vals) = ((ba q r.bits r.vals).vals) ∧ ((aB q.fn 4).and_) = ((ba q r.bits r.vals).and_) ∧ ((aB q.fn 4).or_) = ((ba q r.bits r.vals).or_) ∧ ((aB q.fn 4).data) = ((ba q r.bits r.vals).data) := by and_intros <;> ((unfold ba; rw [if_neg (by omega),if_neg (by omega),if_neg (by omega),if_neg (by omega),if_neg (by omega)]; done))
  exact bH (n := 2) (ds := bm (ba q r.bits r.vals)) Z ⟨le_of_eq (congrArg pI hz5.1),le_of_eq (congrArg pI hz5.2.1),le_of_eq (congrArg pI hz5.2.2.1),le_of_eq (congrArg pI hz5.2.2.2.1),le_of_eq (congrArg pI hz5.2.2.2.2.1),le_of_eq (congrArg (fun z => pS 1 false ar z) hz5.2.2.2.2.2.1),le_of_eq (congrArg (fun z => pS 1 false aj z) hz5.2.2.2.2.2.2.1),le_of_eq (congrArg au hz5.2.2.2.2.2.2.2.1),le_of_eq (congrArg au hz5.2.2.2.2.2.2.2.2.1),le_of_eq (congrArg (fun z => pS 1 false az z) hz5.2.2.2.2.2.2.2.2.2),trivial⟩ (w_ret (af fp))
 try simp only [sB] at c6
 let Y2 : Nat × Pv.Obj := (1,.obj [pI r.fn,pI r.code,pI r.at_,pI r.count,pI r.sub,pS 1 true ar r.bits,pS 1 true aj r.vals,au r.and_,au r.or_,pS 1 false az r.data])
 refine aw (ak (an (cK N (xd 10 [.o 2,.c (pS 1 true ar r.bits),.o 2,.c (pS 1 true aj r.vals),.o 4] [T Tryz.prog 50 [pS 1 false ar r.bits] 0 [] (Ret (pS 1 true ar r.bits) 0 []),T Tryz.prog 51 [pS 1 false aj r.vals] 0 [] (Ret (pS 1 true aj r.vals) 0 [])] 3 [Y2,Y,Y0] ?_ (hc := ⟨(eZ r.bits false),(eH r.vals false),trivial⟩)))))
 refine xe [(3,PV.ptr 1 0),Y3] (re (sr (qo N Z (bj aM Z Z Z (nb Z) ?_))))
 refine qo N Z (aC aM Z Z Z Z Z (nb Z) ?_)
 refine aE [Y3] [(2,.obj [pI r.fn,pI r.code,pI r.at_,pI r.count,pI r.sub,pS 1 true ar r.bits,pS 1 true aj r.vals,au r.and_,au r.or_,pS 1 false az r.data]),Y2,Y0] 3 ⟨Z,trivial⟩ Z Z (re ?_)
 have hz6 : r.fn = ((ba q r.bits r.vals).fn) ∧ r.code = ((ba q r.bits r.vals).code) ∧ r.at_ = ((ba q r.bits r.vals).at_) ∧ r.count = ((ba q r.bits r.vals).count) ∧ r.sub = ((ba q r.bits r.vals).sub) ∧ r.bits = ((ba q r.bits r.vals).bits) ∧ r.vals = ((ba q r.bits r.vals).vals) ∧ r.and_ = ((ba q r.bits r.vals).and_) ∧ r.or_ = ((ba q r.bits r.vals).or_) ∧ r.data = ((ba q r.bits r.vals).data) := by and_intros <;> ((rw [yr (by omega) (by omega) hz]; done))
 exact bH (n := 2) (ds := bm (ba q r.bits r.vals)) Z ⟨le_of_eq (congrArg pI hz6.1),le_of_eq (congrArg pI hz6.2.1),le_of_eq (congrArg pI hz6.2.2.1),le_of_eq (congrArg pI hz6.2.2.2.1),le_of_eq (congrArg pI hz6.2.2.2.2.1),be (dB) (le_of_eq (congrArg (fun z => pS 1 false ar z) hz6.2.2.2.2.2.1)),be (dB) (le_of_eq (congrArg (fun z => pS 1 false aj z) hz6.2.2.2.2.2.2.1)),le_of_eq (congrArg au hz6.2.2.2.2.2.2.2.1),le_of_eq (congrArg au hz6.2.2.2.2.2.2.2.2.1),le_of_eq (congrArg (fun z => pS 1 false az z) hz6.2.2.2.2.2.2.2.2.2),trivial⟩ (w_ret fp)
theorem eW (t : TTenant) (q : TRequest) (l : List TReply) (cl_l : Bool) (J : TReply) (hJ : J = dt t.functions t.windows q l) (ht : t.windows.length ≤ 1000) (hb : q.bits.length ≤ 140737488351232) (hv : q.vals.length ≤ 70368744175616) (hl : l.length ≤ 1000000) (hrl : ∀ r ∈ l,r.bits.length ≤ 5000 ∧ r.vals.length ≤ 5000 ∧ r.data.length ≤ 5000) :
    T Tryz.prog 6 [PV.f (cn t),PV.f (bx q),pS 10 cl_l aK l] 0 [] (Ret (PV.f (aK J)) 0 []) := by
 refine bn aF (n := 108) (rs := [.cell 6 40]) Tryz.func6 Z Z Z Z (nb Z) ?_
 intro c N hk
 refine sr (qo N Z (cu Z Z ?_))
 refine qo N Z (cu Z Z ?_)
 refine qo N Z (cg aM ?_)
 let Ya1 : Nat × Pv.Obj := (1,.obj (cd q))
 let Ya3 : Nat × Pv.Obj := (0,.obj (fc t))
 let Ya6 : Nat × Pv.Obj := (2,.obj [pI 0,pI 0,pI 0,pI 0,pI 0,aH,aH,au 0,au 0,aH])
 let Y3 : ah := [Ya6,Ya1,Ya3]
 let Yb1 : Nat × PV := (6,PV.ptr 2 0)
 refine aE [(2,pS 10 cl_l aK l),(3,PV.ptr 0 0),(4,PV.ptr 1 0),Yb1] Y3 3 ⟨Z,Z,Z,Z,trivial⟩ Z Z (re (sr (xp N 2 [.o 2] [] [(14,PV.f (cn t)),(15,PV.f (bx q))] ?_)))
 obtain ⟨S1,hS1⟩ : ∃ z : List TPart × Int,z = splitP t.functions t.windows q := ⟨_,rfl⟩
 refine qo N Z (aO Z Z Z (qZ t q S1 hS1 (by omega) (by omega) (by omega)) Z ?_)
 let Y5 : Nat × PV := (7,pS 10 false bJ S1.1)
 refine xp N 5 [.o 5] [] [Y5,(8,pI S1.2)] (re (an (aP (an ?_))))
 have hS2 : S1.2 = bL t.functions t.windows q := by rw [hS1,jx]
 have hs6 := (j0 t.functions t.windows q).1
 rw [← hS1] at hs6
 refine bk (xp N 3 [.o 3] [] [(19,pB (!decide (S1.2 = 0)))] (re (av Z (fun c1 => ?_) (fun c1 => ?_))))
 ·have c1_ := c1
  try simp only [sB] at c1
  have hcn : ¬ bL t.functions t.windows q = 0 := by rw [← hS2]; simpa using c1_
  refine sr (xp N 3 [.o 3] [] [(23,pI q.fn),(24,pI S1.2)] (qo N Z (aO Z Z Z (ey q.fn S1.2) Z ?_)))
  refine qo N Z (aC aM Z Z Z Z Z (nb Z) ?_)
  refine aE [Yb1] [(2,.obj (bm (aB q.fn S1.2))),Ya1,Ya3] 3 ⟨Z,trivial⟩ Z Z (re ?_)
  have hz1 : ((aB q.fn S1.2).fn) = J.fn ∧ ((aB q.fn S1.2).code) = J.code ∧ ((aB q.fn S1.2).at_) = J.at_ ∧ ((aB q.fn S1.2).count) = J.count ∧ ((aB q.fn S1.2).sub) = J.sub ∧ ((aB q.fn S1.2).bits) = J.bits ∧ ((aB q.fn S1.2).vals) = J.vals ∧ ((aB q.fn S1.2).and_) = J.and_ ∧ ((aB q.fn S1.2).or_) = J.or_ ∧ ((aB q.fn S1.2).data) = J.data := by and_intros <;> ((rw [hJ,pP hcn,hS2]; done))
  exact bH (n := 2) (ds := bm J) Z ⟨le_of_eq (congrArg pI hz1.1),le_of_eq (congrArg pI hz1.2.1),le_of_eq (congrArg pI hz1.2.2.1),le_of_eq (congrArg pI hz1.2.2.2.1),le_of_eq (congrArg pI hz1.2.2.2.2.1),le_of_eq (congrArg (fun z => pS 1 false ar z) hz1.2.2.2.2.2.1),le_of_eq (congrArg (fun z => pS 1 false aj z) hz1.2.2.2.2.2.2.1),le_of_eq (congrArg au hz1.2.2.2.2.2.2.2.1),le_of_eq (congrArg au hz1.2.2.2.2.2.2.2.2.1),le_of_eq (congrArg (fun z => pS 1 false az z) hz1.2.2.2.2.2.2.2.2.2),trivial⟩ (w_ret (am (af fp)))
 have c1_ := c1
 try simp only [sB] at c1
 refine an ?_
 have hc0 : bL t.functions t.windows q = 0 := by rw [← hS2]; simpa using c1_
 refine bk (xp N 1 [.o 1] [] [(27,PV.f (bx q))] (qo N Z (aO Z Z Z (q6 q) Z ?_)))
 refine ae N Z Z (av Z (fun c2 => ?_) (fun c2 => ?_))
 ·have c2_ := c2
  try simp only [sB] at c2
  refine sr (xp N 2 [.o 2] [] [(30,pI q.fn)] (qo N Z (aO Z Z Z (ey q.fn 4) Z ?_)))
  refine qo N Z (aC aM Z Z Z Z Z (nb Z) ?_)
  refine aE [Yb1] [(2,.obj (bm (aB q.fn 4))),Ya1,Ya3] 3 ⟨Z,trivial⟩ Z Z (re ?_)
  have hz2 : ((aB q.fn 4).fn) = J.fn ∧ ((aB q.fn 4).code) = J.code ∧ ((aB q.fn 4).at_) = J.at_ ∧ ((aB q.fn 4).count) = J.count ∧ ((aB q.fn 4).sub) = J.sub ∧ ((aB q.fn 4).bits) = J.bits ∧ ((aB q.fn 4).vals) = J.vals ∧ ((aB q.fn 4).and_) = J.and_ ∧ ((aB q.fn 4).or_) = J.or_ ∧ ((aB q.fn 4).data) = J.data := by and_intros <;> ((rw [hJ,nr hc0 (by simpa using c2_)]; done))
  exact bH (n := 2) (ds := bm J) Z ⟨le_of_eq (congrArg pI hz2.1),le_of_eq (congrArg pI hz2.2.1),le_of_eq (congrArg pI hz2.2.2.1),le_of_eq (congrArg pI hz2.2.2.2.1),le_of_eq (congrArg pI hz2.2.2.2.2.1),le_of_eq (congrArg (fun z => pS 1 false ar z) hz2.2.2.2.2.2.1),le_of_eq (congrArg (fun z => pS 1 false aj z) hz2.2.2.2.2.2.2.1),le_of_eq (congrArg au hz2.2.2.2.2.2.2.2.1),le_of_eq (congrArg au hz2.2.2.2.2.2.2.2.2.1),le_of_eq (congrArg (fun z => pS 1 false az z) hz2.2.2.2.2.2.2.2.2.2),trivial⟩ (w_ret (am (af fp)))
 have c2_ := c2
 try simp only [sB] at c2
 refine aw (aG (ak (an ?_)))
 have hlc : dP q.fn = false := by simpa using c2_
 refine bk (xp N 5 [.o 2,.c (pN l.length),.o 1,.c (pN S1.1.length)] [cC aK l,cC bJ S1.1] [(32,pS 10 cl_l aK l),(34,pN l.length),(36,pN S1.1.length)] ?_ (hc := ⟨lenC_ok _ _,lenC_ok _ _,trivial⟩))
 refine qo N Z (Bi (a := l.length) (b := S1.1.length) Z (by omega) (by omega) ?_)
 refine qo N Z (j7 (b := min l.length S1.1.length) (f := aK) (l := l) de Z aM ⟨Z,by decide⟩ Z (cD Z (by omega)) (by omega) ?_)
 refine ae N Z Z (an (an ?_))
 obtain ⟨L,hL⟩ : ∃ z,z = l.take S1.1.length := ⟨_,rfl⟩
 refine aq (s := 2) Z (congrArg (fun z => pS 10 false aK z) (show (l.take (min l.length S1.1.length)) = L by rw [hL,List.take_eq_take_iff]; omega)) ?_
 have hLl : L.length ≤ S1.1.length ∧ (L.length < S1.1.length ↔ l.length < S1.1.length) := by rw [hL,List.length_take]; omega
 have hrL : ∀ r ∈ L,r.bits.length ≤ 5000 ∧ r.vals.length ≤ 5000 ∧ r.data.length ≤ 5000 := fun r hr => hrl r (List.mem_of_mem_take (by rw [← hL]; exact hr))
 refine bk (qm N Z Z (qo N Z (aN 3 (pI (idxI (L.findIdx? nzJ))) Y3 [] (f8 L false (by omega)) ?_)))
 refine ae N Z Z (sr (qm N Z Z (qo N Z (jy Z Z ?_))))
 refine re (av Z (fun c3 => ?_) (fun c3 => ?_))
 ·have c3_ := c3
  try simp only [sB] at c3
  refine an ?_
  obtain ⟨ii,e0,hxi,he0,hcj⟩ := zq (rs := L) (by omega)
  have hil := (List.getElem?_eq_some_iff.1 he0).1
  refine aq (s := 9) Z (congrArg pI (show (idxI (L.findIdx? nzJ)) = ((ii : Nat) : Int) by exact hxi)) (cK N (xq 4 [.o 4] [] (xk [(45,pS 10 false aK L),(46,pN ii)] [] [] [] Y3 (cA (q := ii) (b := e0) (f := aK) de Z aM Z Z (by omega) Z he0 ⟨Z,Z,Z⟩) (xd 4 [.o 2,.c (PV.f (aK (aB q.fn e0.code))),.o 1] [T Tryz.prog 19 [pI q.fn,pI e0.code] 0 [] (Ret (PV.f (aK (aB q.fn e0.code))) 0 [])] 3 [(2,.obj (bm (aB q.fn e0.code))),Ya1,Ya3] ?_ (hc := ⟨(ey q.fn e0.code),trivial⟩)))))
  refine xe [Yb1] (re ?_)
  have hz3 : ((aB q.fn e0.code).fn) = J.fn ∧ ((aB q.fn e0.code).code) = J.code ∧ ((aB q.fn e0.code).at_) = J.at_ ∧ ((aB q.fn e0.code).count) = J.count ∧ ((aB q.fn e0.code).sub) = J.sub ∧ ((aB q.fn e0.code).bits) = J.bits ∧ ((aB q.fn e0.code).vals) = J.vals ∧ ((aB q.fn e0.code).and_) = J.and_ ∧ ((aB q.fn e0.code).or_) = J.or_ ∧ ((aB q.fn e0.code).data) = J.data := by and_intros <;> ((rw [hJ,xx hc0 hlc (by rw [← hS1,← hL]; exact hcj)]; done))
  exact bH (n := 2) (ds := bm J) Z ⟨le_of_eq (congrArg pI hz3.1),le_of_eq (congrArg pI hz3.2.1),le_of_eq (congrArg pI hz3.2.2.1),le_of_eq (congrArg pI hz3.2.2.2.1),le_of_eq (congrArg pI hz3.2.2.2.2.1),le_of_eq (congrArg (fun z => pS 1 false ar z) hz3.2.2.2.2.2.1),le_of_eq (congrArg (fun z => pS 1 false aj z) hz3.2.2.2.2.2.2.1),le_of_eq (congrArg au hz3.2.2.2.2.2.2.2.1),le_of_eq (congrArg au hz3.2.2.2.2.2.2.2.2.1),le_of_eq (congrArg (fun z => pS 1 false az z) hz3.2.2.2.2.2.2.2.2.2),trivial⟩ (w_ret (af fp))
 have c3_ := c3
 try simp only [sB] at c3
 refine aw (ak (an ?_))
 have hcj : gP L = none := zr (by omega)
 refine bk (xp N 2 [.o 2] [] [(52,pI q.fn)] (qo N Z (bX aM Z Z (br Z aD Z Z Z (nb Z) (dp ?_)))))
 refine qo N Z (cg aM ?_)
 refine qo N Z (aC aM Z Z Z Z Z (nb Z) ?_)
 let Y7 : Nat × PV := (2,pS 10 false aK L)
 refine aE [Y7,(4,PV.ptr 1 0),Yb1,Y5,(10,PV.ptr 3 0)] [(3,.obj [pI q.fn,pI 0,pI 0,pI 0,pI 0,aH,aH,au 0,au 0,aH]),Ya6,Ya1,Ya3] 4 ⟨Z,Z,Z,Z,Z,trivial⟩ Z Z (re (an (sr (qm N Z Z (qo N Z (ca (l := L) de Z (cf (f := aK) Z) ?_))))))
 let Y0 : Nat × Pv.Obj := (0,.obj [pI q.fn,pI 0,pI 0,pI 0,pI 0,PV.ref 1 0 none,PV.ref 2 0 none,au 0,au 0,aH])
 let Y2 : Nat × Pv.Obj := (4,.obj [pI 0,pI 0,pI 0,pI 0,pI 0,aH,aH,au 0,au 0,aH])
 let Y4 : Nat × Pv.Obj := (3,.obj (cd q))
 let Y8 : Nat × PV := (6,PV.ptr 4 0)
 let Ya : Nat × PV := (54,pS 10 false aK L)
 let Ya8 : Nat × PV := (55,pN L.length)
 let Yb : Nat × PV := (10,PV.ptr 0 0)
 let Yb2 : Nat × PV := (4,PV.ptr 3 0)
 refine qm N Z Z (re (aP (fO (n := 3) (j := 5) (sz := 1) Z Z Z (fO (n := 3) (j := 6) (sz := 1) Z Z Z (iP (fun (bo : List Bool) (vo : List UInt16) (i : Nat) => i ≤ L.length ∧ bo = bitsJ S1.1 (L.take i) ∧ vo = valsJ S1.1 (L.take i) ∧ anyJ S1.1 (L.take i) = false ∧ bo.length ≤ 5000 * i ∧ vo.length ≤ 5000 * i) (fun (bo : List Bool) (vo : List UInt16) (i : Nat) => [Y7,Yb2,Y8,Y5,Yb,Ya,Ya8,(56,pN i)]) 5 (fun (bo : List Bool) (vo : List UInt16) (i : Nat) => [Y0,(1,oB true 1 ar bo),(2,oB true 1 aj vo),Y4,Y2]) (fun (bo : List Bool) (vo : List UInt16) (i : Nat) => L.length - i) (([] : List Bool)) (([] : List UInt16)) (0) ?_ ⟨[(0,3),(1,4),(2,5),(3,1),(4,2)],by rw [hk]; decide,⟨⟨_,rfl,rfl,rfl⟩,⟨_,rfl,rfl,rfl⟩,⟨_,rfl,rfl,rfl⟩,⟨_,rfl,rfl,rfl⟩,⟨_,rfl,rfl,rfl⟩,⟨_,rfl,rfl,rfl⟩,⟨_,rfl,rfl,rfl⟩,⟨_,rfl,rfl,rfl⟩,trivial⟩,⟨⟨_,_,rfl,rfl,rfl,rfl⟩,⟨_,_,rfl,rfl,rfl,rfl⟩,⟨_,_,rfl,rfl,rfl,rfl⟩,⟨_,_,rfl,rfl,rfl,rfl⟩,⟨_,_,rfl,rfl,rfl,rfl⟩,trivial⟩,by rw [hk]; decide⟩ ?_)))))
 · exact ⟨by omega,by simp [vW],by simp [uN],by simp [xN],by simp,by simp⟩
 ·intro bo vo i hI
  obtain ⟨hi,hbo,hvo,hany,hbl,hvl⟩ := hI
  refine sr (qo N Z (cZ Z Z ?_))
  let Y9 : Nat × Pv.Obj := (2,oB true 1 aj vo)
  let Ya2 : Nat × Pv.Obj := (1,oB true 1 ar bo)
  let Ya4 : Nat × Pv.Obj := (4,.obj (bm (aB q.fn 4)))
  refine re (an (av Z (fun c4 => ?_) (fun c4 => ?_)))
  ·have c4_ := c4
   try simp only [sB] at c4
   refine aw (ak (an (aP (sr (qm N Z Z ?_)))))
   obtain ⟨e1,he1⟩ := bl L (i := i) (by omega)
   refine qo N Z (cA (q := i) (b := e1) (f := aK) de Z aM Z Z (by omega) Z he1 ?_)
   refine qo N Z (gk aM Z Z Z ?_)
   refine qo N Z (cg aM ?_)
   refine qa N Z Z (qo N Z (aC aM Z Z Z Z Z (nb Z) ?_))
   let Y6 : Nat × Pv.Obj := (5,.obj (bm e1))
   let Y : ah := [Y6,Y0,Ya2,Y9,Y4,Y2]
   let Yb0 : Nat × PV := (12,PV.ptr 5 0)
   refine aE [Y7,Yb2,Y8,Y5,Yb,(11,pN i),Yb0,Ya,Ya8,(56,pN i)] Y 6 ⟨Z,Z,Z,Z,Z,Z,Z,Z,Z,Z,trivial⟩ Z Z (re (an (an ?_)))
   have hre := hrL e1 (List.mem_of_getElem? he1)
   refine cK N (xq 4 [.o 4] [] ?_)
   obtain ⟨e2,he2⟩ := bl S1.1 (i := i) (by omega)
   let Y1 : Nat × PV := (70,pB (!decide (e1.fn = e2.request.fn)))
   refine xk [(63,pS 10 false bJ S1.1),(64,pN i)] [] [] [] Y (cA (q := i) (b := e2) (f := bJ) fC Z fU Z Z (by omega) Z he2 ⟨Z,Z,Z⟩) (xq 5 [.o 5] [] (xi 70 [Y1,Yb0] Z (fun g1 => ?_) (fun g1 => ?_)))
   ·have g1' := g1
    try simp only [sB] at g1'
    refine bU [Y1,Yb0] [Y6] [] [Y6] Y (bj aM Z Z Z (nb Z) ⟨Z,Z,Z⟩) ?_ (hs := ⟨Z,trivial⟩)
    let Ya7 : Nat × PV := (73,pB (!decide (bI e1 = 0)))
    let Ya9 : Nat × PV := (71,PV.f (aK e1))
    let Yb3 : Nat × PV := (72,pI (bI e1))
    refine cw 70 [Y1,Ya9] Z g1 (bU [Y1,Ya9] [] [] [] Y (aO Z Z Z (qj e1 (by omega)) Z ⟨Z,Z,Z⟩) (cw 70 [Y1,Yb3] Z g1 (bU [Y1,Yb3] [] [] [] Y (el Z Z ⟨Z,Z,Z⟩) (xk [Y1,Ya7] [] [] [] Y (bd Z g1 Z ⟨Z,Z,Z⟩) (xe [Y7,Yb2,Y8,Y5,Yb,(11,pN i),Yb0,Ya,Ya8,(56,pN i),Ya9,Yb3,Ya7,(74,pB (!decide (bI e1 = 0)))] ?_)))))
    refine re (av Z (fun c5 => ?_) (fun c5 => ?_))
    ·have c5_ := c5
     try simp only [sB] at c5
     refine sr (xp N 2 [.o 2] [] [(76,pI q.fn)] (qo N Z (aO Z Z Z (ey q.fn 4) Z ?_)))
     refine qo N Z (aC aM Z Z Z Z Z (nb Z) ?_)
     refine aE [Y8] [Ya4,Y6,Y0,Ya2,Y9,Y4] 6 ⟨Z,trivial⟩ Z Z (re ?_)
     have hz4 : ((aB q.fn 4).fn) = J.fn ∧ ((aB q.fn 4).code) = J.code ∧ ((aB q.fn 4).at_) = J.at_ ∧ ((aB q.fn 4).count) = J.count ∧ ((aB q.fn 4).sub) = J.sub ∧ ((aB q.fn 4).bits) = J.bits ∧ ((aB q.fn 4).vals) = J.vals ∧ ((aB q.fn 4).and_) = J.and_ ∧ ((aB q.fn 4).or_) = J.or_ ∧ ((aB q.fn 4).data) = J.data := by and_intros <;> ((rw [hJ,nu hc0 hlc (by rw [← hS1,← hL]; exact hcj) (.inr (by rw [← hS1,← hL]; exact nG he2 he1 (by unfold mw; first|assumption|(rw [g1]; rfl)|(rw [g1,c5_]; rfl)|simp_all)))]; done))
     exact bH (n := 4) (ds := bm J) Z ⟨le_of_eq (congrArg pI hz4.1),le_of_eq (congrArg pI hz4.2.1),le_of_eq (congrArg pI hz4.2.2.1),le_of_eq (congrArg pI hz4.2.2.2.1),le_of_eq (congrArg pI hz4.2.2.2.2.1),le_of_eq (congrArg (fun z => pS 1 false ar z) hz4.2.2.2.2.2.1),le_of_eq (congrArg (fun z => pS 1 false aj z) hz4.2.2.2.2.2.2.1),le_of_eq (congrArg au hz4.2.2.2.2.2.2.2.1),le_of_eq (congrArg au hz4.2.2.2.2.2.2.2.2.1),le_of_eq (congrArg (fun z => pS 1 false az z) hz4.2.2.2.2.2.2.2.2.2),trivial⟩ (w_ret (af (am (af (af (am (af fp)))))))
    have c5_ := c5
    try simp only [sB] at c5
    refine aw (ak (sr (qm N Z Z (qm N Z Z (qo N Z (cA (q := i) (b := e2) (f := bJ) fC Z fU Z Z (by omega) Z he2 ?_))))))
    refine xp N 3 [.o 3] [] [(83,pB (!e2.write))] (re (av Z (fun c6 => ?_) (fun c6 => ?_)))
    ·have c6_ := c6
     try simp only [sB] at c6
     let Ya0 : Nat × Pv.Obj := (6,oB true 1 ar (bo ++ e1.bits))
     let Ya5 : Nat × Pv.Obj := (7,oB true 1 aj (vo ++ e1.vals))
     refine cK N (xq 4 [.o 4] [] (xk [(85,PV.ref 1 0 none),(87,pS 1 false ar e1.bits)] [] [Ya2] [Ya0] [Ya0,Y6,Y0,Y9,Y4,Y2] (bZ (f := ar) (l := bo) (xs := e1.bits) bT Z dE ⟨Z,by decide,by decide⟩ (da bT Z (cf (f := ar) Z)) Z Z (by (simp; omega)) ⟨Z,Z,Z⟩) (xq 4 [.o 4] [] (xk [(90,PV.ref 2 0 none),(92,pS 1 false aj e1.vals)] [] [Y9] [Ya5] [Ya5,Ya0,Y6,Y0,Y4,Y2] (bZ (f := aj) (l := vo) (xs := e1.vals) bf Z bE ⟨Z,by decide,by decide⟩ (da bf Z (cf (f := aj) Z)) Z Z (by (simp; omega)) ⟨Z,Z,Z⟩) (xd 4 [.o 4] [] 8 [(0,.obj [pI q.fn,pI 0,pI 0,pI 0,pI 0,PV.ref 6 0 none,PV.ref 7 0 none,au 0,au 0,aH]),Ya5,Ya0,Y6,Y4,Y2] ?_)))))
     refine xe [Y7,Yb2,Y8,Y5,Yb,Ya,Ya8,(56,pN i),Ya9,Yb3,Ya7] (bG (aG (ak (bk (qo N Z (cm (a := i) (b := 1) Z Z (by omega) (by omega) (by omega) ?_))))))
     refine qm N Z Z (re (⟨(bo ++ e1.bits),(vo ++ e1.vals),(i + 1), ?_, ?_,⟨[(0,0),(1,6),(2,7),(3,3),(4,4)],by rw [hk]; decide,⟨⟨_,rfl,rfl,rfl⟩,⟨_,rfl,rfl,rfl⟩,⟨_,rfl,rfl,rfl⟩,⟨_,rfl,rfl,rfl⟩,⟨_,rfl,rfl,rfl⟩,⟨_,rfl,rfl,rfl⟩,⟨_,rfl,rfl,rfl⟩,⟨_,rfl,rfl,rfl⟩,trivial⟩,⟨⟨_,_,rfl,rfl,rfl,rfl⟩,⟨_,_,rfl,rfl,rfl,rfl⟩,⟨_,_,rfl,rfl,rfl,rfl⟩,⟨_,_,rfl,rfl,rfl,rfl⟩,⟨_,_,rfl,rfl,rfl,rfl⟩,trivial⟩,by rw [hk]; decide⟩⟩))
     ·have hbs := ls he2 he1
      have hvs := kZ he2 he1
      have has := mz he2 he1
      refine ⟨by omega, ?_, ?_, ?_, ?_, ?_⟩
      · rw [hbs,← hbo]; cases hwv : e2.write <;> simp_all
      · rw [hvs,← hvo]; cases hwv : e2.write <;> simp_all
      · rw [has,hany]; unfold mw; simp_all
      · (simp; omega)
      · (simp; omega)
     · omega
    have c6_ := c6
    try simp only [sB] at c6
    refine aw (aG (ak (bk (qo N Z (cm (a := i) (b := 1) Z Z (by omega) (by omega) (by omega) ?_)))))
    refine qm N Z Z (re (⟨(bo),(vo),(i + 1), ?_, ?_,⟨[(0,0),(1,1),(2,2),(3,3),(4,4)],by rw [hk]; decide,⟨⟨_,rfl,rfl,rfl⟩,⟨_,rfl,rfl,rfl⟩,⟨_,rfl,rfl,rfl⟩,⟨_,rfl,rfl,rfl⟩,⟨_,rfl,rfl,rfl⟩,⟨_,rfl,rfl,rfl⟩,⟨_,rfl,rfl,rfl⟩,⟨_,rfl,rfl,rfl⟩,trivial⟩,⟨⟨_,_,rfl,rfl,rfl,rfl⟩,⟨_,_,rfl,rfl,rfl,rfl⟩,⟨_,_,rfl,rfl,rfl,rfl⟩,⟨_,_,rfl,rfl,rfl,rfl⟩,⟨_,_,rfl,rfl,rfl,rfl⟩,trivial⟩,by rw [hk]; decide⟩⟩))
    ·have hbs := ls he2 he1
     have hvs := kZ he2 he1
     have has := mz he2 he1
     refine ⟨by omega, ?_, ?_, ?_, ?_, ?_⟩
     · rw [hbs,← hbo]; cases hwv : e2.write <;> simp_all
     · rw [hvs,← hvo]; cases hwv : e2.write <;> simp_all
     · rw [has,hany]; unfold mw; simp_all
     · omega
     · omega
    · omega
   have g1' := g1
   try simp only [sB] at g1'
   refine dj 70 [Y1,(71,aZ)] Z g1 (dj 70 [Y1,(72,aZ)] Z g1 (xk [Y1,(73,aZ)] [] [] [] Y (bg Z g1 Z ⟨Z,Z,Z⟩) (xe [Y7,Yb2,Y8,Y5,Yb,(11,pN i),Yb0,Ya,Ya8,(56,pN i),(74,pB true)] (re (av Z (fun _ => ?_) (fun e => absurd e (by decide)))))))
   refine sr (xp N 2 [.o 2] [] [(76,pI q.fn)] (qo N Z (aO Z Z Z (ey q.fn 4) Z ?_)))
   refine qo N Z (aC aM Z Z Z Z Z (nb Z) ?_)
   refine aE [Y8] [Ya4,Y6,Y0,Ya2,Y9,Y4] 6 ⟨Z,trivial⟩ Z Z (re ?_)
   have hz5 : ((aB q.fn 4).fn) = J.fn ∧ ((aB q.fn 4).code) = J.code ∧ ((aB q.fn 4).at_) = J.at_ ∧ ((aB q.fn 4).count) = J.count ∧ ((aB q.fn 4).sub) = J.sub ∧ ((aB q.fn 4).bits) = J.bits ∧ ((aB q.fn 4).vals) = J.vals ∧ ((aB q.fn 4).and_) = J.and_ ∧ ((aB q.fn 4).or_) = J.or_ ∧ ((aB q.fn 4).data) = J.data := by and_intros <;> ((rw [hJ,nu hc0 hlc (by rw [← hS1,← hL]; exact hcj) (.inr (by rw [← hS1,← hL]; exact nG he2 he1 (by unfold mw; first|assumption|(rw [g1]; rfl)|(rw [g1,c5_]; rfl)|simp_all)))]; done))
   exact bH (n := 4) (ds := bm J) Z ⟨le_of_eq (congrArg pI hz5.1),le_of_eq (congrArg pI hz5.2.1),le_of_eq (congrArg pI hz5.2.2.1),le_of_eq (congrArg pI hz5.2.2.2.1),le_of_eq (congrArg pI hz5.2.2.2.2.1),le_of_eq (congrArg (fun z => pS 1 false ar z) hz5.2.2.2.2.2.1),le_of_eq (congrArg (fun z => pS 1 false aj z) hz5.2.2.2.2.2.2.1),le_of_eq (congrArg au hz5.2.2.2.2.2.2.2.1),le_of_eq (congrArg au hz5.2.2.2.2.2.2.2.2.1),le_of_eq (congrArg (fun z => pS 1 false az z) hz5.2.2.2.2.2.2.2.2.2),trivial⟩ (w_ret (af (am (af (af (am (af fp)))))))
  have c4_ := c4
  try simp only [sB] at c4
  refine cG (aL (aL (bq (ak (an (an ?_))))))
  have hiL : i = L.length := by omega
  rw [hiL,List.take_length] at hbo hvo hany
  refine bk (xp N 5 [.o 1,.c (pN L.length),.o 1,.c (pN S1.1.length),.o 1] [cC aK L,cC bJ S1.1] [(101,pB (decide (((L.length : Nat) : Int) < ((S1.1.length : Nat) : Int))))] ?_ (hc := ⟨lenC_ok _ _,lenC_ok _ _,trivial⟩))
  refine re (av Z (fun c7 => ?_) (fun c7 => ?_))
  ·have c7_ := c7
   try simp only [sB] at c7
   refine sr (xp N 2 [.o 2] [] [(103,pI q.fn)] (qo N Z (aO Z Z Z (ey q.fn 4) Z ?_)))
   refine qo N Z (aC aM Z Z Z Z Z (nb Z) ?_)
   refine aE [Y8] [Ya4,Y0,Ya2,Y9,Y4] 5 ⟨Z,trivial⟩ Z Z (re ?_)
   have hz6 : ((aB q.fn 4).fn) = J.fn ∧ ((aB q.fn 4).code) = J.code ∧ ((aB q.fn 4).at_) = J.at_ ∧ ((aB q.fn 4).count) = J.count ∧ ((aB q.fn 4).sub) = J.sub ∧ ((aB q.fn 4).bits) = J.bits ∧ ((aB q.fn 4).vals) = J.vals ∧ ((aB q.fn 4).and_) = J.and_ ∧ ((aB q.fn 4).or_) = J.or_ ∧ ((aB q.fn 4).data) = J.data := by and_intros <;> ((rw [hJ,nu hc0 hlc (by rw [← hS1,← hL]; exact hcj) (.inl (by rw [← hS1]; omega))]; done))
   exact bH (n := 4) (ds := bm J) Z ⟨le_of_eq (congrArg pI hz6.1),le_of_eq (congrArg pI hz6.2.1),le_of_eq (congrArg pI hz6.2.2.1),le_of_eq (congrArg pI hz6.2.2.2.1),le_of_eq (congrArg pI hz6.2.2.2.2.1),le_of_eq (congrArg (fun z => pS 1 false ar z) hz6.2.2.2.2.2.1),le_of_eq (congrArg (fun z => pS 1 false aj z) hz6.2.2.2.2.2.2.1),le_of_eq (congrArg au hz6.2.2.2.2.2.2.2.1),le_of_eq (congrArg au hz6.2.2.2.2.2.2.2.2.1),le_of_eq (congrArg (fun z => pS 1 false az z) hz6.2.2.2.2.2.2.2.2.2),trivial⟩ (w_ret (af fp))
  have c7_ := c7
  try simp only [sB] at c7
  refine aw (ak (sr (xp N 2 [.o 2] [] [(105,PV.f (bx q)),(106,PV.agg [pI q.fn,pI 0,pI 0,pI 0,pI 0,PV.ref 1 0 none,PV.ref 2 0 none,au 0,au 0,aH])] (qo N Z (aN 5 (PV.f (aK (ba q (⟨q.fn,0,0,0,0,bo,vo,0,0,[]⟩ : TReply).bits (⟨q.fn,0,0,0,0,bo,vo,0,0,[]⟩ : TReply).vals))) [(2,oB false 1 aj vo),(1,oB false 1 ar bo),Y0,Y4,Y2] [] (T.leL (args := [PV.f (bx q),PV.f (.agg [ay q.fn,ay 0,ay 0,ay 0,ay 0,FV.sl 1 false (List.map ar bo),FV.sl 1 false (List.map aj vo),aj 0,aj 0,FV.v (.slice none 0 0)])]) (args' := [PV.f (bx q),PV.f (aK (⟨q.fn,0,0,0,0,bo,vo,0,0,[]⟩ : TReply))]) ⟨le_refl _,⟨ed (FLe.agg ⟨FLe.refl _,FLe.refl _,FLe.refl _,FLe.refl _,FLe.refl _,FLe.refl _,FLe.refl _,FLe.refl _,FLe.refl _,FLe.nil 1 false,trivial⟩),trivial⟩⟩ (q7 q (⟨q.fn,0,0,0,0,bo,vo,0,0,[]⟩ : TReply) (by omega) (by (simp; omega)) (by rfl))) ?_)))))
  refine qo N Z (aC aM Z Z Z Z Z (nb Z) ?_)
  refine aE [Y8] [(4,.obj [pI ((ba q (⟨q.fn,0,0,0,0,bo,vo,0,0,[]⟩ : TReply).bits (⟨q.fn,0,0,0,0,bo,vo,0,0,[]⟩ : TReply).vals).fn),pI ((ba q (⟨q.fn,0,0,0,0,bo,vo,0,0,[]⟩ : TReply).bits (⟨q.fn,0,0,0,0,bo,vo,0,0,[]⟩ : TReply).vals).code),pI ((ba q (⟨q.fn,0,0,0,0,bo,vo,0,0,[]⟩ : TReply).bits (⟨q.fn,0,0,0,0,bo,vo,0,0,[]⟩ : TReply).vals).at_),pI ((ba q (⟨q.fn,0,0,0,0,bo,vo,0,0,[]⟩ : TReply).bits (⟨q.fn,0,0,0,0,bo,vo,0,0,[]⟩ : TReply).vals).count),pI ((ba q (⟨q.fn,0,0,0,0,bo,vo,0,0,[]⟩ : TReply).bits (⟨q.fn,0,0,0,0,bo,vo,0,0,[]⟩ : TReply).vals).sub),pS 1 false ar ((ba q (⟨q.fn,0,0,0,0,bo,vo,0,0,[]⟩ : TReply).bits (⟨q.fn,0,0,0,0,bo,vo,0,0,[]⟩ : TReply).vals).bits),pS 1 false aj ((ba q (⟨q.fn,0,0,0,0,bo,vo,0,0,[]⟩ : TReply).bits (⟨q.fn,0,0,0,0,bo,vo,0,0,[]⟩ : TReply).vals).vals),au ((ba q (⟨q.fn,0,0,0,0,bo,vo,0,0,[]⟩ : TReply).bits (⟨q.fn,0,0,0,0,bo,vo,0,0,[]⟩ : TReply).vals).and_),au ((ba q (⟨q.fn,0,0,0,0,bo,vo,0,0,[]⟩ : TReply).bits (⟨q.fn,0,0,0,0,bo,vo,0,0,[]⟩ : TReply).vals).or_),pS 1 false az ((ba q (⟨q.fn,0,0,0,0,bo,vo,0,0,[]⟩ : TReply).bits (⟨q.fn,0,0,0,0,bo,vo,0,0,[]⟩ : TReply).vals).data)]),(2,oB false 1 aj vo),(1,oB false 1 ar bo),Y0,Y4] 5 ⟨Z,trivial⟩ Z Z (re ?_)
  have hz7 : ((ba q (⟨q.fn,0,0,0,0,bo,vo,0,0,[]⟩ : TReply).bits (⟨q.fn,0,0,0,0,bo,vo,0,0,[]⟩ : TReply).vals).fn) = J.fn ∧ ((ba q (⟨q.fn,0,0,0,0,bo,vo,0,0,[]⟩ : TReply).bits (⟨q.fn,0,0,0,0,bo,vo,0,0,[]⟩ : TReply).vals).code) = J.code ∧ ((ba q (⟨q.fn,0,0,0,0,bo,vo,0,0,[]⟩ : TReply).bits (⟨q.fn,0,0,0,0,bo,vo,0,0,[]⟩ : TReply).vals).at_) = J.at_ ∧ ((ba q (⟨q.fn,0,0,0,0,bo,vo,0,0,[]⟩ : TReply).bits (⟨q.fn,0,0,0,0,bo,vo,0,0,[]⟩ : TReply).vals).count) = J.count ∧ ((ba q (⟨q.fn,0,0,0,0,bo,vo,0,0,[]⟩ : TReply).bits (⟨q.fn,0,0,0,0,bo,vo,0,0,[]⟩ : TReply).vals).sub) = J.sub ∧ ((ba q (⟨q.fn,0,0,0,0,bo,vo,0,0,[]⟩ : TReply).bits (⟨q.fn,0,0,0,0,bo,vo,0,0,[]⟩ : TReply).vals).bits) = J.bits ∧ ((ba q (⟨q.fn,0,0,0,0,bo,vo,0,0,[]⟩ : TReply).bits (⟨q.fn,0,0,0,0,bo,vo,0,0,[]⟩ : TReply).vals).vals) = J.vals ∧ ((ba q (⟨q.fn,0,0,0,0,bo,vo,0,0,[]⟩ : TReply).bits (⟨q.fn,0,0,0,0,bo,vo,0,0,[]⟩ : TReply).vals).and_) = J.and_ ∧ ((ba q (⟨q.fn,0,0,0,0,bo,vo,0,0,[]⟩ : TReply).bits (⟨q.fn,0,0,0,0,bo,vo,0,0,[]⟩ : TReply).vals).or_) = J.or_ ∧ ((ba q (⟨q.fn,0,0,0,0,bo,vo,0,0,[]⟩ : TReply).bits (⟨q.fn,0,0,0,0,bo,vo,0,0,[]⟩ : TReply).vals).data) = J.data := by and_intros <;> ((rw [hJ,rZ hc0 hlc (by rw [← hS1,← hL]; exact hcj) (by rw [← hS1]; omega) (by rw [← hS1,← hL]; exact hany),← hS1,← hL,hbo,hvo]; done))
  exact bH (n := 4) (ds := bm J) Z ⟨le_of_eq (congrArg pI hz7.1),le_of_eq (congrArg pI hz7.2.1),le_of_eq (congrArg pI hz7.2.2.1),le_of_eq (congrArg pI hz7.2.2.2.1),le_of_eq (congrArg pI hz7.2.2.2.2.1),le_of_eq (congrArg (fun z => pS 1 false ar z) hz7.2.2.2.2.2.1),le_of_eq (congrArg (fun z => pS 1 false aj z) hz7.2.2.2.2.2.2.1),le_of_eq (congrArg au hz7.2.2.2.2.2.2.2.1),le_of_eq (congrArg au hz7.2.2.2.2.2.2.2.2.1),le_of_eq (congrArg (fun z => pS 1 false az z) hz7.2.2.2.2.2.2.2.2.2),trivial⟩ (w_ret fp)
theorem jZ   :
    T Tryz.prog 16 [] 0 [] (Ret (PV.ref 0 0 none) 1 [(0,oB true 1 ay fnsL)]) := by
 refine bn aF (n := 2) (rs := [.tmp 0]) Tryz.func16 Z Z Z Z (nb Z) ?_
 intro c N hk
 refine sr (ae N Z Z (sr (qo N Z (bM (f := ay) ([1,2,3,4,5,6,8,15,16,17,22,23] : List Int) ew Z aD ⟨Z,by decide⟩ (by decide) Z Z Z Z ?_))))
 refine qa N Z Z (aE [(0,PV.ref 0 0 none)] [(0,oB true 1 ay ([1,2,3,4,5,6,8,15,16,17,22,23] : List Int))] 1 ⟨Z,trivial⟩ Z Z (re (eN (H' := [(0,oB true 1 ay fnsL)]) (congrArg (fun z => ([(0,oB true 1 ay z)] : ah)) (show ([1,2,3,4,5,6,8,15,16,17,22,23] : List Int) = fnsL by rfl)) (w_ret ?_))))
 exact bB (nx1 := 1) (H1 := [(0,oB true 1 ay fnsL)]) [(0,0)] (ret_tmp Z ret_nil) Z (by decide) ⟨⟨_,_,Z,Z,Z,Z⟩,trivial⟩ (by decide) Z ⟨Z,Z,Z⟩
theorem aA (L : List Int) (cl_L : Bool) (a : Nat) (n : Int) (hL : L.length ≤ 70000000000000) (hn : -9223372036854775808 ≤ n ∧ n ≤ 9223372036854775807) :
    T Tryz.prog 17 [PV.ptr 0 0,pI n] 1 [(0,.obj [pS 1 cl_L ay L,pN a])] (Ret (pI (ag L a n)) 1 [(0,.obj [pS 1 false ay L,pN (ad L a n)])]) := by
 refine bn aF (n := 40) (rs := [.tmp 4]) Tryz.func17 Z Z Z Z (nb Z) ?_
 intro c N hk
 refine sr (ae N Z Z (an (an (cK N (xq 11 [.o 8,.c (pN L.length),.o 2] [cC ay L] ?_ (hc := ⟨lenC_ok _ _,trivial⟩))))))
 let Y : Nat × PV := (15,pB (decide (((L.length : Nat) : Int) ≤ ((a : Nat) : Int))))
 let Y1 : ah := [(0,.obj [pS 1 cl_L ay L,pN a])]
 let Y2 : ah := [(0,.obj [pS 1 false ay L,pN (ad L a n)])]
 refine xi 15 [Y,(1,pI n)] Z (fun g1 => ?_) (fun g1 => ?_)
 ·have g1' := g1
  try simp only [sB] at g1'
  refine bU [Y,(1,pI n)] [] [] [] Y1 (d7 Z ⟨Z,Z,Z⟩) (cw 15 [Y,(16,pI n)] Z g1 (bU [Y,(16,pI n)] [] [] [] Y1 (cZ Z Z ⟨Z,Z,Z⟩) (xk [Y,(17,pB (decide (n < 1)))] [] [] [] Y1 (bd Z g1 Z ⟨Z,Z,Z⟩) (xe [(0,PV.ptr 0 0),(1,pI n),(18,pB (decide (n < 1)))] (re ?_)))))
  refine av Z (fun c1 => ?_) (fun c1 => ?_)
  ·try simp only [sB] at c1
   refine sr (ae N Z Z (aq (s := 4) Z (congrArg pI (show 0 = (ag L a n) by (unfold ag; rw [if_pos (by omega)]; done))) ?_))
   have hz1 : a = (ad L a n) := by ((unfold ad; rw [if_pos (by omega)]; done))
   refine bH (n := 0) (ds := [pS 1 false ay L,pN (ad L a n)]) Z ⟨dB,le_of_eq (congrArg (fun z : Nat => pN z) hz1),trivial⟩ (w_ret (af ?_))
   exact bB (nx1 := 1) (H1 := Y2) [(0,0)] (ret_tmp Z ret_nil) Z (by decide) ⟨⟨_,_,Z,Z,Z,Z⟩,trivial⟩ (by decide) Z ⟨Z,Z,Z⟩
  try simp only [sB] at c1
  let Y0 : ah := [(0,.obj [pS 1 cl_L ay L,pN (a + 1)])]
  refine aw (ak (sr (xm N 8 [.o 8] [bu (((a : Nat) : Int) + 1)] [] 1 Y0 ?_ (hc := ⟨by unfold bu; (omega),trivial⟩))))
  refine re (an (cK N (xq 8 [.o 8] [] (xk [(33,pN (a + 1))] [] [] [] Y0 (Be (a := a + 1) (b := 1) Z Z (by omega) (by omega) (by omega) ⟨Z,Z,Z⟩) ?_))))
  obtain ⟨e1,he1⟩ := bl L (i := a + 1 - 1) (by omega)
  refine xk [(29,pS 1 cl_L ay L),(34,pN (a + 1 - 1))] [] [] [] Y0 (cA (q := a + 1 - 1) (b := e1) (f := ay) ew Z aD Z Z (by omega) Z he1 ⟨Z,Z,Z⟩) (xq 3 [.o 1,.c (pI (dW e1 0 1073741824)),.o 1] [T Tryz.prog 44 [pI e1,pI 0,pI 1073741824] 0 [] (Ret (pI (dW e1 0 1073741824)) 0 [])] ?_ (hc := ⟨(kX e1 0 1073741824 (by omega)),trivial⟩))
  refine xk [(37,pI (dW e1 0 1073741824)),(38,pI n)] [] [] [] Y0 (qu Z Z (by omega) ⟨Z,Z,Z⟩) (xq 1 [.o 1] [] (xe [(4,pI (Int.tmod (dW e1 0 1073741824) n))] (re (aq (s := 4) Z (congrArg pI (show (Int.tmod (dW e1 0 1073741824) n) = (ag L a n) by (unfold ag; rw [if_neg (by omega),List.getD_eq_getElem?_getD,show L[a]? = some e1 from he1]; rfl))) ?_))))
  have hz2 : (a + 1) = (ad L a n) := by ((unfold ad; rw [if_neg (by omega)]; done))
  refine bH (n := 0) (ds := [pS 1 false ay L,pN (ad L a n)]) Z ⟨dB,le_of_eq (congrArg (fun z : Nat => pN z) hz2),trivial⟩ (w_ret ?_)
  exact bB (nx1 := 1) (H1 := Y2) [(0,0)] (ret_tmp Z ret_nil) Z (by decide) ⟨⟨_,_,Z,Z,Z,Z⟩,trivial⟩ (by decide) Z ⟨Z,Z,Z⟩
 have g1' := g1
 try simp only [sB] at g1'
 refine dj 15 [Y,(16,aZ)] Z g1 (xk [Y,(17,aZ)] [] [] [] Y1 (bg Z g1 Z ⟨Z,Z,Z⟩) (xe [(0,PV.ptr 0 0),(1,pI n),(18,pB true)] (re (av Z (fun _ => ?_) (fun e => absurd e (by decide))))))
 refine sr (ae N Z Z (aq (s := 4) Z (congrArg pI (show 0 = (ag L a n) by (unfold ag; rw [if_pos (by omega)]; done))) ?_))
 have hz3 : a = (ad L a n) := by ((unfold ad; rw [if_pos (by omega)]; done))
 refine bH (n := 0) (ds := [pS 1 false ay L,pN (ad L a n)]) Z ⟨dB,le_of_eq (congrArg (fun z : Nat => pN z) hz3),trivial⟩ (w_ret (af ?_))
 exact bB (nx1 := 1) (H1 := Y2) [(0,0)] (ret_tmp Z ret_nil) Z (by decide) ⟨⟨_,_,Z,Z,Z,Z⟩,trivial⟩ (by decide) Z ⟨Z,Z,Z⟩
theorem jn (L : List Int) (cl_L : Bool) (a : Nat) (hL : L.length ≤ 70000000000000) :
    T Tryz.prog 5 [PV.ptr 0 0] 1 [(0,.obj [pS 1 cl_L ay L,pN a])] (fun ra rb rc => ∃ q : TRequest,∃ b : Nat,(bK q = 0 ∧ q.bits.length ≤ 25 ∧ q.vals.length ≤ 25 ∧ 0 ≤ q.count ∧ q.count ≤ 25) ∧ (Ret (PV.f (bx q)) 1 [(0,.obj [pS 1 false ay L,pN b])]) ra rb rc) := by
 refine bn aF (n := 140) (rs := [.cell 2 33]) Tryz.func5 Z Z Z Z (nb Z) ?_
 intro c N hk
 refine sr (qo N Z (cg bc ?_))
 let Y : Nat × Pv.Obj := (1,.obj [pI 0,pI 0,pI 0,pI 0,pI 0,aH,aH,au 0,au 0])
 let Y4 : Nat × Pv.Obj := (2,oB true 1 ay fnsL)
 let Yb1 : Nat × PV := (2,PV.ptr 1 0)
 let Yb3 : Nat × PV := (0,PV.ptr 0 0)
 refine aE [Yb3,Yb1] [Y,(0,.obj [pS 1 cl_L ay L,pN a])] 2 ⟨Z,Z,trivial⟩ Z Z (re (sr (qo N Z (aN 3 (PV.ref 2 0 none) [Y4,Y,(0,.obj [pS 1 cl_L ay L,pN a])] [] (jZ) ?_))))
 let Yd2 : Nat × Pv.Obj := (0,.obj [pS 1 false ay L,pN (ad L a 12)])
 refine qm N Z Z (qo N Z (aN 3 (pI (ag L a 12)) [Yd2,Y4,Y] [0] (aA L cl_L a 12 (by omega) (by omega)) ?_))
 have h12 := b9 L a (n := 12) (by decide)
 have hfl : fnsL.length = 12 := rfl
 refine qo N Z (fg (q := Int.toNat (ag L a 12)) (f := ay) (l := fnsL) ew Z aD Z Z (by omega) Z Z (by omega) ?_)
 obtain ⟨e1,he1⟩ := bl fnsL (i := Int.toNat (ag L a 12)) (by omega)
 refine qo N Z (hU (b := e1) (f := ay) aD Z Z Z Z he1 Z ?_)
 refine qo N Z (bX bc Z Z (br Z aD Z Z Z (nb Z) (dp ?_)))
 refine qo N Z (cg bc ?_)
 refine qo N Z (aC bc Z Z Z Z Z (nb Z) ?_)
 let Y0 : Nat × Pv.Obj := (3,.obj [pI e1,pI 0,pI 0,pI 0,pI 0,aH,aH,au 0,au 0])
 let Yb6 : Nat × PV := (3,PV.ptr 3 0)
 refine aE [Yb3,Yb1,Yb6] [Y0,Yd2,Y4,Y] 4 ⟨Z,Z,Z,trivial⟩ Z Z (re (an ?_))
 have hfn := zQ he1
 have h70 := b9 L (ad L a 12) (n := 70) (by decide)
 let Ya3 : Nat × Pv.Obj := (0,.obj [pS 1 false ay L,pN (ad L (ad L a 12) 70)])
 refine bk (qm N Z Z (qo N Z (aN 4 (pI (ag L (ad L a 12) 70)) [Ya3,Y0,Y4,Y] [0] (aA L false (ad L a 12) 70 (by omega) (by omega)) ?_)))
 refine qa N Z Z (aE [Yb3,Yb1,Yb6,(4,pI (ag L (ad L a 12) 70))] [Ya3,Y0,Y4,Y] 4 ⟨Z,Z,Z,Z,trivial⟩ Z Z (re (an (sr (xp N 2 [.o 2] [] [(17,pI e1)] ?_)))))
 let Y8 : Nat × Pv.Obj := (0,.obj [pS 1 false ay L,pN (ad L (ad L (ad L a 12) 70) 26)])
 let Ya : Nat × Pv.Obj := (3,.obj [pI e1,pI (ag L (ad L a 12) 70),pI (ag L (ad L (ad L a 12) 70) 26),pI 0,pI 0,aH,aH,au 0,au 0])
 refine re (aP (xo N 18 [[.o 2],[.o 2],[.o 2],[.o 2]] [] ((decide (e1 = 1)) || ((decide (e1 = 2)) || ((decide (e1 = 3)) || (decide (e1 = 4))))) (av Z (fun c4 => ?_) (fun c4 => ?_))))
 ·try simp only [sB,Bool.or_eq_true,Bool.or_eq_false_iff] at c4
  have h26 := b9 L (ad L (ad L a 12) 70) (n := 26) (by decide)
  refine bk (qm N Z Z (qm N Z Z (qo N Z (aN 4 (pI (ag L (ad L (ad L a 12) 70) 26)) [Y8,Y0,Y4,Y] [0] (aA L false (ad L (ad L a 12) 70) 26 (by omega) (by omega)) ?_))))
  refine qo N Z (aX bc Z Z aD (by decide) Z ?_)
  refine qo N Z (aC aD Z Z Z Z Z (nb Z) ?_)
  refine qo N Z (aX bc Z Z aD (by decide) Z ?_)
  refine qo N Z (aC aD Z Z Z Z Z (nb Z) ?_)
  refine aE [Yb1,Yb6] [Ya,Y8,Y4,Y] 4 ⟨Z,Z,trivial⟩ Z Z (bG (aG (ak (sr (qo N Z (bj bc Z Z Z (nb Z) ?_))))))
  refine qo N Z (aC bc Z Z Z Z Z (nb Z) ?_)
  refine aE [Yb1] [(1,.obj [pI e1,pI (ag L (ad L a 12) 70),pI (ag L (ad L (ad L a 12) 70) 26),pI 0,pI 0,aH,aH,au 0,au 0]),Ya,Y8,Y4] 4 ⟨Z,trivial⟩ Z Z (re (bH (n := 1) (ds := [pI e1,pI (ag L (ad L a 12) 70),pI (ag L (ad L (ad L a 12) 70) 26),pI 0,pI 0,pS 1 false ar [],pS 1 false aj [],au 0,au 0]) Z ⟨le_refl _,le_refl _,le_refl _,le_refl _,le_refl _,ax 1 false,ax 1 false,le_refl _,le_refl _,trivial⟩ (w_ret ?_)))
  have hex : bK (⟨e1,ag L (ad L a 12) 70,ag L (ad L (ad L a 12) 70) 26,0,0,[],[],0,0⟩ : TRequest) = 0 ∧ (⟨e1,ag L (ad L a 12) 70,ag L (ad L (ad L a 12) 70) 26,0,0,[],[],0,0⟩ : TRequest).bits.length ≤ 25 ∧ (⟨e1,ag L (ad L a 12) 70,ag L (ad L (ad L a 12) 70) 26,0,0,[],[],0,0⟩ : TRequest).vals.length ≤ 25 ∧ 0 ≤ (⟨e1,ag L (ad L a 12) 70,ag L (ad L (ad L a 12) 70) 26,0,0,[],[],0,0⟩ : TRequest).count ∧ (⟨e1,ag L (ad L a 12) 70,ag L (ad L (ad L a 12) 70) 26,0,0,[],[],0,0⟩ : TRequest).count ≤ 25 := by
    refine ⟨(cU (q := _) hfn).2 ?_,by simp; try omega,by simp; try omega,by simp; try omega,by simp; try omega⟩
    constructor
    case bits => simp only; (rw [if_neg (by omega),if_neg (by omega)]; rfl)
    case vals => simp only; (rw [if_neg (by omega),if_neg (by omega),if_neg (by omega)]; rfl)
    all_goals first|(intro _; rfl)|(intro _; exact ⟨rfl,rfl⟩)|(simp only; omega)
  exact bB (nx1 := 1) (H1 := [Y8]) [(0,0)] (ret_cell bc (by decide) Z Z (nb Z) Z ret_nil) Z (by decide) ⟨⟨_,_,Z,Z,Z,Z⟩,trivial⟩ (by decide) Z ⟨((⟨e1,ag L (ad L a 12) 70,ag L (ad L (ad L a 12) 70) 26,0,0,[],[],0,0⟩ : TRequest)),(ad L (ad L (ad L a 12) 70) 26),hex,Z,Z,Z⟩
 try simp only [sB,Bool.or_eq_true,Bool.or_eq_false_iff] at c4
 refine sr (xp N 2 [.o 2] [] [(28,pB (decide (e1 = 5)))] (re (av Z (fun c5 => ?_) (fun c5 => ?_))))
 ·try simp only [sB] at c5
  let Yb : Nat × Pv.Obj := (0,.obj [pS 1 false ay L,pN (ad L (ad L (ad L a 12) 70) 2)])
  refine bk (qm N Z Z (qm N Z Z (qo N Z (aN 4 (pI (ag L (ad L (ad L a 12) 70) 2)) [Yb,Y0,Y4,Y] [0] (aA L false (ad L (ad L a 12) 70) 2 (by omega) (by omega)) ?_))))
  refine qo N Z (bF Z Z ?_)
  refine qo N Z (bM (f := ar) [decide (ag L (ad L (ad L a 12) 70) 2 = 1)] bT Z dE ⟨Z,by decide⟩ (by decide) Z Z Z Z ?_)
  refine qo N Z (aX bc Z Z aD (by decide) Z ?_)
  refine qo N Z (aC aD Z Z Z Z Z (nb Z) ?_)
  refine qo N Z (aX bc Z Z bT (by decide) Z ?_)
  refine qo N Z (aC bT Z Z Z Z Z (nb Z) ?_)
  let Yc : Nat × Pv.Obj := (3,.obj [pI e1,pI (ag L (ad L a 12) 70),pI 0,pI 0,pI 0,PV.ref 4 0 none,aH,au 0,au 0])
  let Yc4 : Nat × Pv.Obj := (4,oB true 1 ar [decide (ag L (ad L (ad L a 12) 70) 2 = 1)])
  refine aE [Yb1,Yb6] [Yc,Yc4,Yb,Y4,Y] 5 ⟨Z,Z,trivial⟩ Z Z (bG (aG (ak (sr (qo N Z (bj bc Z Z Z (nb Z) ?_))))))
  refine qo N Z (aC bc Z Z Z Z Z (nb Z) ?_)
  refine aE [Yb1] [(1,.obj [pI e1,pI (ag L (ad L a 12) 70),pI 0,pI 0,pI 0,PV.ref 4 0 none,aH,au 0,au 0]),Yc,Yc4,Yb,Y4] 5 ⟨Z,trivial⟩ Z Z (re (gF (n := 1) (j := 5) Z Z Z Z (bH (n := 1) (ds := [pI e1,pI (ag L (ad L a 12) 70),pI 0,pI 0,pI 0,pS 1 false ar [decide (ag L (ad L (ad L a 12) 70) 2 = 1)],pS 1 false aj [],au 0,au 0]) Z ⟨le_refl _,le_refl _,le_refl _,le_refl _,le_refl _,le_refl _,ax 1 false,le_refl _,le_refl _,trivial⟩ (w_ret ?_))))
  have hex : bK (⟨e1,ag L (ad L a 12) 70,0,0,0,[decide (ag L (ad L (ad L a 12) 70) 2 = 1)],[],0,0⟩ : TRequest) = 0 ∧ (⟨e1,ag L (ad L a 12) 70,0,0,0,[decide (ag L (ad L (ad L a 12) 70) 2 = 1)],[],0,0⟩ : TRequest).bits.length ≤ 25 ∧ (⟨e1,ag L (ad L a 12) 70,0,0,0,[decide (ag L (ad L (ad L a 12) 70) 2 = 1)],[],0,0⟩ : TRequest).vals.length ≤ 25 ∧ 0 ≤ (⟨e1,ag L (ad L a 12) 70,0,0,0,[decide (ag L (ad L (ad L a 12) 70) 2 = 1)],[],0,0⟩ : TRequest).count ∧ (⟨e1,ag L (ad L a 12) 70,0,0,0,[decide (ag L (ad L (ad L a 12) 70) 2 = 1)],[],0,0⟩ : TRequest).count ≤ 25 := by
    refine ⟨(cU (q := _) hfn).2 ?_,by simp; try omega,by simp; try omega,by simp; try omega,by simp; try omega⟩
    constructor
    case bits => simp only; (rw [if_pos (by omega)]; rfl)
    case vals => simp only; (rw [if_neg (by omega),if_neg (by omega),if_neg (by omega)]; rfl)
    all_goals first|(intro _; rfl)|(intro _; exact ⟨rfl,rfl⟩)|(simp only; omega)
  exact bB (nx1 := 1) (H1 := [Yb]) [(0,0)] (ret_cell bc (by decide) Z Z (nb Z) Z ret_nil) Z (by decide) ⟨⟨_,_,Z,Z,Z,Z⟩,trivial⟩ (by decide) Z ⟨((⟨e1,ag L (ad L a 12) 70,0,0,0,[decide (ag L (ad L (ad L a 12) 70) 2 = 1)],[],0,0⟩ : TRequest)),(ad L (ad L (ad L a 12) 70) 2),hex,Z,Z,Z⟩
 try simp only [sB] at c5
 let Ya2 : Nat × Pv.Obj := (0,.obj [pS 1 false ay L,pN (ad L (ad L (ad L a 12) 70) 65536)])
 refine sr (xp N 2 [.o 2] [] [(37,pB (decide (e1 = 6)))] (re (av Z (fun c6 => ?_) (fun c6 => ?_))))
 ·try simp only [sB] at c6
  refine bk (qm N Z Z (qm N Z Z (qo N Z (aN 4 (pI (ag L (ad L (ad L a 12) 70) 65536)) [Ya2,Y0,Y4,Y] [0] (aA L false (ad L (ad L a 12) 70) 65536 (by omega) (by omega)) ?_))))
  refine qo N Z (iY aD bE Z Z Z ?_)
  refine qo N Z (bM (f := aj) [bV (ag L (ad L (ad L a 12) 70) 65536)] bf Z bE ⟨Z,by decide⟩ (by decide) Z Z Z Z ?_)
  refine qo N Z (aX bc Z Z aD (by decide) Z ?_)
  refine qo N Z (aC aD Z Z Z Z Z (nb Z) ?_)
  refine qo N Z (aX bc Z Z bf (by decide) Z ?_)
  refine qo N Z (aC bf Z Z Z Z Z (nb Z) ?_)
  let Yc0 : Nat × Pv.Obj := (3,.obj [pI e1,pI (ag L (ad L a 12) 70),pI 0,pI 0,pI 0,aH,PV.ref 4 0 none,au 0,au 0])
  let Yc6 : Nat × Pv.Obj := (4,oB true 1 aj [bV (ag L (ad L (ad L a 12) 70) 65536)])
  refine aE [Yb1,Yb6] [Yc0,Yc6,Ya2,Y4,Y] 5 ⟨Z,Z,trivial⟩ Z Z (bG (aG (ak (sr (qo N Z (bj bc Z Z Z (nb Z) ?_))))))
  refine qo N Z (aC bc Z Z Z Z Z (nb Z) ?_)
  refine aE [Yb1] [(1,.obj [pI e1,pI (ag L (ad L a 12) 70),pI 0,pI 0,pI 0,aH,PV.ref 4 0 none,au 0,au 0]),Yc0,Yc6,Ya2,Y4] 5 ⟨Z,trivial⟩ Z Z (re (gF (n := 1) (j := 6) Z Z Z Z (bH (n := 1) (ds := [pI e1,pI (ag L (ad L a 12) 70),pI 0,pI 0,pI 0,pS 1 false ar [],pS 1 false aj [bV (ag L (ad L (ad L a 12) 70) 65536)],au 0,au 0]) Z ⟨le_refl _,le_refl _,le_refl _,le_refl _,le_refl _,ax 1 false,le_refl _,le_refl _,le_refl _,trivial⟩ (w_ret ?_))))
  have hex : bK (⟨e1,ag L (ad L a 12) 70,0,0,0,[],[bV (ag L (ad L (ad L a 12) 70) 65536)],0,0⟩ : TRequest) = 0 ∧ (⟨e1,ag L (ad L a 12) 70,0,0,0,[],[bV (ag L (ad L (ad L a 12) 70) 65536)],0,0⟩ : TRequest).bits.length ≤ 25 ∧ (⟨e1,ag L (ad L a 12) 70,0,0,0,[],[bV (ag L (ad L (ad L a 12) 70) 65536)],0,0⟩ : TRequest).vals.length ≤ 25 ∧ 0 ≤ (⟨e1,ag L (ad L a 12) 70,0,0,0,[],[bV (ag L (ad L (ad L a 12) 70) 65536)],0,0⟩ : TRequest).count ∧ (⟨e1,ag L (ad L a 12) 70,0,0,0,[],[bV (ag L (ad L (ad L a 12) 70) 65536)],0,0⟩ : TRequest).count ≤ 25 := by
    refine ⟨(cU (q := _) hfn).2 ?_,by simp; try omega,by simp; try omega,by simp; try omega,by simp; try omega⟩
    constructor
    case bits => simp only; (rw [if_neg (by omega),if_neg (by omega)]; rfl)
    case vals => simp only; (rw [if_pos (by omega)]; rfl)
    all_goals first|(intro _; rfl)|(intro _; exact ⟨rfl,rfl⟩)|(simp only; omega)
  exact bB (nx1 := 1) (H1 := [Ya2]) [(0,0)] (ret_cell bc (by decide) Z Z (nb Z) Z ret_nil) Z (by decide) ⟨⟨_,_,Z,Z,Z,Z⟩,trivial⟩ (by decide) Z ⟨((⟨e1,ag L (ad L a 12) 70,0,0,0,[],[bV (ag L (ad L (ad L a 12) 70) 65536)],0,0⟩ : TRequest)),(ad L (ad L (ad L a 12) 70) 65536),hex,Z,Z,Z⟩
 try simp only [sB] at c6
 refine sr (xp N 2 [.o 2] [] [(46,pB (decide (e1 = 8)))] (re (av Z (fun c7 => ?_) (fun c7 => ?_))))
 ·try simp only [sB] at c7
  have h8 := b9 L (ad L (ad L a 12) 70) (n := 8) (by decide)
  have h4 := b9 L (ad L (ad L (ad L a 12) 70) 8) (n := 4) (by decide)
  let Y3 : Nat × Pv.Obj := (4,oB true 1 ay ([0,10,11,12,13,14,2,300] : List Int))
  let Ya0 : Nat × Pv.Obj := (0,.obj [pS 1 false ay L,pN (ad L (ad L (ad L a 12) 70) 8)])
  refine cK N (xk [] [] [] [Y3] [Y3,Ya3,Y0,Y4,Y] (bM (f := ay) ([0,10,11,12,13,14,2,300] : List Int) ew Z aD ⟨Z,by decide⟩ (by decide) Z Z Z Z ⟨Z,Z,Z⟩) (xq 1 [.o 1] [] (xk [(49,PV.ptr 0 0)] [] [Ya3] [Ya0] [Ya0,Y3,Y0,Y4,Y] (aN 5 (pI (ag L (ad L (ad L a 12) 70) 8)) _ [0] (aA L false (ad L (ad L a 12) 70) 8 (by omega) (by omega)) ⟨Z,Z,Z⟩) (xk [(48,PV.ref 4 0 none),(50,pI (ag L (ad L (ad L a 12) 70) 8))] [Y3] [] [Y3] [Ya0,Y3,Y0,Y4,Y] (fg (q := Int.toNat (ag L (ad L (ad L a 12) 70) 8)) (f := ay) (l := ([0,10,11,12,13,14,2,300] : List Int)) ew Z aD Z Z (by omega) Z Z (by simp; omega) ⟨Z,Z,Z⟩) ?_ (hs := ⟨Z,trivial⟩)))))
  obtain ⟨e2,he2⟩ := bl ([0,10,11,12,13,14,2,300] : List Int) (i := Int.toNat (ag L (ad L (ad L a 12) 70) 8)) (by simp; omega)
  refine xk [(51,PV.ep 4 (Int.toNat (ag L (ad L (ad L a 12) 70) 8)) 0)] [Y3] [] [Y3] [Ya0,Y3,Y0,Y4,Y] (hU (b := e2) (f := ay) aD Z Z Z Z he2 Z ⟨Z,Z,Z⟩) ?_ (hs := ⟨Z,trivial⟩)
  have hm2 := List.mem_of_getElem? he2
  simp only [List.mem_cons,List.not_mem_nil,or_false] at hm2
  let Y6 : Nat × Pv.Obj := (0,.obj [pS 1 false ay L,pN (ad L (ad L (ad L (ad L a 12) 70) 8) 4)])
  let Y9 : Nat × Pv.Obj := (5,oB true 1 aj ([0,0,0,777] : List UInt16))
  refine xk [] [] [] [Y9] [Y9,Ya0,Y3,Y0,Y4,Y] (bM (f := aj) ([0,0,0,777] : List UInt16) bf Z bE ⟨Z,by decide⟩ (by decide) Z Z Z Z ⟨Z,Z,Z⟩) (xq 1 [.o 1] [] (xk [(54,PV.ptr 0 0)] [] [Ya0] [Y6] [Y6,Y9,Y3,Y0,Y4,Y] (aN 6 (pI (ag L (ad L (ad L (ad L a 12) 70) 8) 4)) _ [0] (aA L false (ad L (ad L (ad L a 12) 70) 8) 4 (by omega) (by omega)) ⟨Z,Z,Z⟩) (xk [(53,PV.ref 5 0 none),(55,pI (ag L (ad L (ad L (ad L a 12) 70) 8) 4))] [Y9] [] [Y9] [Y6,Y9,Y3,Y0,Y4,Y] (fg (q := Int.toNat (ag L (ad L (ad L (ad L a 12) 70) 8) 4)) (f := aj) (l := ([0,0,0,777] : List UInt16)) bf Z bE Z Z (by omega) Z Z (by simp; omega) ⟨Z,Z,Z⟩) ?_ (hs := ⟨Z,trivial⟩))))
  obtain ⟨e3,he3⟩ := bl ([0,0,0,777] : List UInt16) (i := Int.toNat (ag L (ad L (ad L (ad L a 12) 70) 8) 4)) (by simp; omega)
  refine xk [(56,PV.ep 5 (Int.toNat (ag L (ad L (ad L (ad L a 12) 70) 8) 4)) 0)] [Y9] [] [Y9] [Y6,Y9,Y3,Y0,Y4,Y] (hU (b := e3) (f := aj) bE Z Z Z Z he3 Z ⟨Z,Z,Z⟩) ?_ (hs := ⟨Z,trivial⟩)
  let Yc5 : Nat × Pv.Obj := (3,.obj [pI e1,pI 0,pI 0,pI 0,pI e2,aH,PV.ref 6 0 none,au 0,au 0])
  let Yc7 : Nat × Pv.Obj := (6,oB true 1 aj [e3])
  refine xk [(57,au e3)] [] [] [Yc7] [Yc7,Y6,Y9,Y3,Y0,Y4,Y] (bM (f := aj) [e3] bf Z bE ⟨Z,by decide⟩ (by decide) Z Z Z Z ⟨Z,Z,Z⟩) (xd 4 [.o 4] [] 7 [Yc5,Yc7,Y6,Y9,Y3,Y4,Y] (xe [Yb1,Yb6] (bG (aG (ak ?_)))))
  refine sr (qo N Z (bj bc Z Z Z (nb Z) ?_))
  refine qo N Z (aC bc Z Z Z Z Z (nb Z) ?_)
  refine aE [Yb1] [(1,.obj [pI e1,pI 0,pI 0,pI 0,pI e2,aH,PV.ref 6 0 none,au 0,au 0]),Yc5,Yc7,Y6,Y9,Y3,Y4] 7 ⟨Z,trivial⟩ Z Z (re (gF (n := 1) (j := 6) Z Z Z Z (bH (n := 1) (ds := [pI e1,pI 0,pI 0,pI 0,pI e2,pS 1 false ar [],pS 1 false aj [e3],au 0,au 0]) Z ⟨le_refl _,le_refl _,le_refl _,le_refl _,le_refl _,ax 1 false,le_refl _,le_refl _,le_refl _,trivial⟩ (w_ret ?_))))
  have hex : bK (⟨e1,0,0,0,e2,[],[e3],0,0⟩ : TRequest) = 0 ∧ (⟨e1,0,0,0,e2,[],[e3],0,0⟩ : TRequest).bits.length ≤ 25 ∧ (⟨e1,0,0,0,e2,[],[e3],0,0⟩ : TRequest).vals.length ≤ 25 ∧ 0 ≤ (⟨e1,0,0,0,e2,[],[e3],0,0⟩ : TRequest).count ∧ (⟨e1,0,0,0,e2,[],[e3],0,0⟩ : TRequest).count ≤ 25 := by
    refine ⟨(cU (q := _) hfn).2 ?_,by simp; try omega,by simp; try omega,by simp; try omega,by simp; try omega⟩
    constructor
    case bits => simp only; (rw [if_neg (by omega),if_neg (by omega)]; rfl)
    case vals => simp only; (rw [if_pos (by omega)]; rfl)
    all_goals first|(intro _; rfl)|(intro _; exact ⟨rfl,rfl⟩)|(simp only; omega)
  exact bB (nx1 := 1) (H1 := [Y6]) [(0,0)] (ret_cell bc (by decide) Z Z (nb Z) Z ret_nil) Z (by decide) ⟨⟨_,_,Z,Z,Z,Z⟩,trivial⟩ (by decide) Z ⟨((⟨e1,0,0,0,e2,[],[e3],0,0⟩ : TRequest)),(ad L (ad L (ad L (ad L a 12) 70) 8) 4),hex,Z,Z,Z⟩
 try simp only [sB] at c7
 let Y2 : Nat × Pv.Obj := (3,.obj [pI 0,pI 0,pI 0,pI 0,pI 0,aH,aH,au 0,au 0])
 let Yb7 : Nat × PV := (2,PV.ptr 3 0)
 let Yc8 : Nat × PV := (3,PV.ptr 1 0)
 refine sr (xp N 2 [.o 2] [] [(61,pB (decide (e1 = 15)))] (re (av Z (fun c8 => ?_) (fun c8 => ?_))))
 ·try simp only [sB] at c8
  refine an ?_
  have h26 := b9 L (ad L (ad L a 12) 70) (n := 26) (by decide)
  refine bk (qm N Z Z (qm N Z Z (qo N Z (aN 4 (pI (ag L (ad L (ad L a 12) 70) 26)) [Y8,Y0,Y4,Y] [0] (aA L false (ad L (ad L a 12) 70) 26 (by omega) (by omega)) ?_))))
  refine qo N Z (aX bc Z Z aD (by decide) Z ?_)
  refine qo N Z (aC aD Z Z Z Z Z (nb Z) ?_)
  refine qo N Z (aX bc Z Z aD (by decide) Z ?_)
  refine qo N Z (aC aD Z Z Z Z Z (nb Z) ?_)
  let Y7 : Nat × Pv.Obj := (1,.obj [pI e1,pI (ag L (ad L a 12) 70),pI (ag L (ad L (ad L a 12) 70) 26),pI 0,pI 0,PV.ref 2 0 none,aH,au 0,au 0])
  refine aE [Yb3,Yb1,Yb6] [Ya,Y8,Y4,Y] 4 ⟨Z,Z,Z,trivial⟩ Z Z (re (sr (ae N Z Z (aP (fO (n := 3) (j := 5) (sz := 1) Z Z Z (iP (fun (ap : Nat) (os : List Bool) (i : Nat) => (i : Int) ≤ ag L (ad L (ad L a 12) 70) 26 ∧ os.length = i) (fun (ap : Nat) (os : List Bool) (i : Nat) => [Yb3,Yb7,Yc8,(5,pN i)]) 4 (fun (ap : Nat) (os : List Bool) (i : Nat) => [(0,.obj [pS 1 false ay L,pN ap]),Y7,(2,oB true 1 ar os),Y2]) (fun (ap : Nat) (os : List Bool) (i : Nat) => (ag L (ad L (ad L a 12) 70) 26).toNat - i) (ad L (ad L (ad L a 12) 70) 26) (([] : List Bool)) (0) ?_ ⟨[(0,0),(1,3),(2,4),(3,1)],by rw [hk]; decide,⟨⟨_,rfl,rfl,rfl⟩,⟨_,rfl,rfl,rfl⟩,⟨_,rfl,rfl,rfl⟩,⟨_,rfl,rfl,rfl⟩,trivial⟩,⟨⟨_,_,rfl,rfl,rfl,rfl⟩,⟨_,_,rfl,rfl,rfl,rfl⟩,⟨_,_,rfl,rfl,rfl,rfl⟩,⟨_,_,rfl,rfl,rfl,rfl⟩,trivial⟩,by rw [hk]; decide⟩ ?_))))))
  · exact ⟨by omega,rfl⟩
  ·intro ap os i hI
   obtain ⟨hi,hol⟩ := hI
   let Yc9 : Nat × Pv.Obj := (0,.obj [pS 1 false ay L,pN ap])
   let Yd1 : Nat × Pv.Obj := (2,oB true 1 ar os)
   refine an (sr (xp N 4 [.o 4] [] [(71,pB (decide (((i : Nat) : Int) < ag L (ad L (ad L a 12) 70) 26)))] (re (av Z (fun c9 => ?_) (fun c9 => ?_)))))
   ·try simp only [sB] at c9
    refine aw (ak (an (aP (cK N (xq 3 [.o 3] [] ?_)))))
    let Ya7 : Nat × Pv.Obj := (4,oB true 1 ar [decide (ag L ap 2 = 1)])
    let Yb2 : Nat × Pv.Obj := (0,.obj [pS 1 false ay L,pN (ad L ap 2)])
    let Yb5 : Nat × Pv.Obj := (5,oB true 1 ar (os ++ [decide (ag L ap 2 = 1)]))
    refine xk [(76,PV.ptr 0 0)] [] [Yc9] [Yb2] [Yb2,Y7,Yd1,Y2] (aN 4 (pI (ag L ap 2)) _ [0] (aA L false ap 2 (by omega) (by omega)) ⟨Z,Z,Z⟩) (xq 1 [.o 1] [] (xk [(78,pB (decide (ag L ap 2 = 1)))] [] [] [Ya7] [Ya7,Yb2,Y7,Yd1,Y2] (bM (f := ar) [decide (ag L ap 2 = 1)] bT Z dE ⟨Z,by decide⟩ (by decide) Z Z Z Z ⟨Z,Z,Z⟩) (xk [(75,PV.ref 2 0 none),(79,PV.ref 4 0 none)] [Ya7] [Yd1] [Yb5,Ya7] [Yb5,Ya7,Yb2,Y7,Y2] (bZ (f := ar) (l := os) (xs := [decide (ag L ap 2 = 1)]) bT Z dE ⟨Z,by decide,by decide⟩ (da bT Z (ct (f := ar) Z Z)) Z Z (by (simp; omega)) ⟨Z,Z,Z⟩) ?_ (hs := ⟨Z,trivial⟩))))
    refine xd 2 [.o 2] [] 6 [(1,.obj [pI e1,pI (ag L (ad L a 12) 70),pI (ag L (ad L (ad L a 12) 70) 26),pI 0,pI 0,PV.ref 5 0 none,aH,au 0,au 0]),Yb5,Ya7,Yb2,Y2] (xe [Yb3,Yb7,Yc8,(5,pN i)] (bG (aG (ak (bk ?_)))))
    refine qm N Z Z (qo N Z (cm (a := i) (b := 1) Z Z (by omega) (by omega) (by omega) ?_))
    refine ae N Z Z (⟨(ad L ap 2),(os ++ [decide (ag L ap 2 = 1)]),(i + 1), ?_, ?_,⟨[(0,0),(1,1),(2,5),(3,3)],by rw [hk]; decide,⟨⟨_,rfl,rfl,rfl⟩,⟨_,rfl,rfl,rfl⟩,⟨_,rfl,rfl,rfl⟩,⟨_,rfl,rfl,rfl⟩,trivial⟩,⟨⟨_,_,rfl,rfl,rfl,rfl⟩,⟨_,_,rfl,rfl,rfl,rfl⟩,⟨_,_,rfl,rfl,rfl,rfl⟩,⟨_,_,rfl,rfl,rfl,rfl⟩,trivial⟩,by rw [hk]; decide⟩⟩)
    ·exact ⟨by omega,by simp [hol]⟩
    · omega
   try simp only [sB] at c9
   refine cG (aL (aL (bq (aG (ak (sr (qo N Z (bj bc Z Z Z (nb Z) ?_))))))))
   refine qo N Z (aC bc Z Z Z Z Z (nb Z) ?_)
   refine aE [Yb7] [(3,.obj [pI e1,pI (ag L (ad L a 12) 70),pI (ag L (ad L (ad L a 12) 70) 26),pI 0,pI 0,PV.ref 2 0 none,aH,au 0,au 0]),Yc9,Y7,Yd1] 4 ⟨Z,trivial⟩ Z Z (re (gF (n := 3) (j := 5) Z Z Z Z (bH (n := 3) (ds := [pI e1,pI (ag L (ad L a 12) 70),pI (ag L (ad L (ad L a 12) 70) 26),pI 0,pI 0,pS 1 false ar os,pS 1 false aj [],au 0,au 0]) Z ⟨le_refl _,le_refl _,le_refl _,le_refl _,le_refl _,le_refl _,ax 1 false,le_refl _,le_refl _,trivial⟩ (w_ret ?_))))
   have hex : bK (⟨e1,ag L (ad L a 12) 70,ag L (ad L (ad L a 12) 70) 26,0,0,os,[],0,0⟩ : TRequest) = 0 ∧ (⟨e1,ag L (ad L a 12) 70,ag L (ad L (ad L a 12) 70) 26,0,0,os,[],0,0⟩ : TRequest).bits.length ≤ 25 ∧ (⟨e1,ag L (ad L a 12) 70,ag L (ad L (ad L a 12) 70) 26,0,0,os,[],0,0⟩ : TRequest).vals.length ≤ 25 ∧ 0 ≤ (⟨e1,ag L (ad L a 12) 70,ag L (ad L (ad L a 12) 70) 26,0,0,os,[],0,0⟩ : TRequest).count ∧ (⟨e1,ag L (ad L a 12) 70,ag L (ad L (ad L a 12) 70) 26,0,0,os,[],0,0⟩ : TRequest).count ≤ 25 := by
     refine ⟨(cU (q := _) hfn).2 ?_,by simp; try omega,by simp; try omega,by simp; try omega,by simp; try omega⟩
     constructor
     case bits => simp only; (rw [if_neg (by omega),if_pos (by omega)]; exact ⟨by omega,by omega⟩)
     case vals => simp only; (rw [if_neg (by omega),if_neg (by omega),if_neg (by omega)]; rfl)
     all_goals first|(intro _; rfl)|(intro _; exact ⟨rfl,rfl⟩)|(simp only; omega)
   exact bB (nx1 := 1) (H1 := [Yc9]) [(0,0)] (ret_cell bc (by decide) Z Z (nb Z) Z ret_nil) Z (by decide) ⟨⟨_,_,Z,Z,Z,Z⟩,trivial⟩ (by decide) Z ⟨((⟨e1,ag L (ad L a 12) 70,ag L (ad L (ad L a 12) 70) 26,0,0,os,[],0,0⟩ : TRequest)),(ap),hex,Z,Z,Z⟩
 try simp only [sB] at c8
 refine sr (xp N 2 [.o 2] [] [(82,pB (decide (e1 = 16)))] (re (av Z (fun c10 => ?_) (fun c10 => ?_))))
 ·try simp only [sB] at c10
  refine an ?_
  have h26 := b9 L (ad L (ad L a 12) 70) (n := 26) (by decide)
  refine bk (qm N Z Z (qm N Z Z (qo N Z (aN 4 (pI (ag L (ad L (ad L a 12) 70) 26)) [Y8,Y0,Y4,Y] [0] (aA L false (ad L (ad L a 12) 70) 26 (by omega) (by omega)) ?_))))
  refine qo N Z (aX bc Z Z aD (by decide) Z ?_)
  refine qo N Z (aC aD Z Z Z Z Z (nb Z) ?_)
  refine qo N Z (aX bc Z Z aD (by decide) Z ?_)
  refine qo N Z (aC aD Z Z Z Z Z (nb Z) ?_)
  let Y5 : Nat × Pv.Obj := (1,.obj [pI e1,pI (ag L (ad L a 12) 70),pI (ag L (ad L (ad L a 12) 70) 26),pI 0,pI 0,aH,PV.ref 2 0 none,au 0,au 0])
  refine aE [Yb3,Yb1,Yb6] [Ya,Y8,Y4,Y] 4 ⟨Z,Z,Z,trivial⟩ Z Z (re (sr (ae N Z Z (aP (fO (n := 3) (j := 6) (sz := 1) Z Z Z (iP (fun (ap : Nat) (os : List UInt16) (i : Nat) => (i : Int) ≤ ag L (ad L (ad L a 12) 70) 26 ∧ os.length = i) (fun (ap : Nat) (os : List UInt16) (i : Nat) => [Yb3,Yb7,Yc8,(6,pN i)]) 4 (fun (ap : Nat) (os : List UInt16) (i : Nat) => [(0,.obj [pS 1 false ay L,pN ap]),Y5,(2,oB true 1 aj os),Y2]) (fun (ap : Nat) (os : List UInt16) (i : Nat) => (ag L (ad L (ad L a 12) 70) 26).toNat - i) (ad L (ad L (ad L a 12) 70) 26) (([] : List UInt16)) (0) ?_ ⟨[(0,0),(1,3),(2,4),(3,1)],by rw [hk]; decide,⟨⟨_,rfl,rfl,rfl⟩,⟨_,rfl,rfl,rfl⟩,⟨_,rfl,rfl,rfl⟩,⟨_,rfl,rfl,rfl⟩,trivial⟩,⟨⟨_,_,rfl,rfl,rfl,rfl⟩,⟨_,_,rfl,rfl,rfl,rfl⟩,⟨_,_,rfl,rfl,rfl,rfl⟩,⟨_,_,rfl,rfl,rfl,rfl⟩,trivial⟩,by rw [hk]; decide⟩ ?_))))))
  · exact ⟨by omega,rfl⟩
  ·intro ap os i hI
   obtain ⟨hi,hol⟩ := hI
   let Yc2 : Nat × Pv.Obj := (2,oB true 1 aj os)
   let Yd : Nat × Pv.Obj := (0,.obj [pS 1 false ay L,pN ap])
   refine an (sr (xp N 4 [.o 4] [] [(92,pB (decide (((i : Nat) : Int) < ag L (ad L (ad L a 12) 70) 26)))] (re (av Z (fun c11 => ?_) (fun c11 => ?_)))))
   ·try simp only [sB] at c11
    refine aw (ak (an (aP (cK N (xq 3 [.o 3] [] ?_)))))
    let Ya5 : Nat × Pv.Obj := (0,.obj [pS 1 false ay L,pN (ad L ap 65536)])
    let Ya8 : Nat × Pv.Obj := (4,oB true 1 aj [bV (ag L ap 65536)])
    let Yb8 : Nat × Pv.Obj := (5,oB true 1 aj (os ++ [bV (ag L ap 65536)]))
    refine xk [(97,PV.ptr 0 0)] [] [Yd] [Ya5] [Ya5,Y5,Yc2,Y2] (aN 4 (pI (ag L ap 65536)) _ [0] (aA L false ap 65536 (by omega) (by omega)) ⟨Z,Z,Z⟩) (xk [(98,pI (ag L ap 65536))] [] [] [] [Ya5,Y5,Yc2,Y2] (iY aD bE Z Z Z ⟨Z,Z,Z⟩) (xk [(99,au (bV (ag L ap 65536)))] [] [] [Ya8] [Ya8,Ya5,Y5,Yc2,Y2] (bM (f := aj) [bV (ag L ap 65536)] bf Z bE ⟨Z,by decide⟩ (by decide) Z Z Z Z ⟨Z,Z,Z⟩) (xk [(96,PV.ref 2 0 none),(100,PV.ref 4 0 none)] [Ya8] [Yc2] [Yb8,Ya8] [Yb8,Ya8,Ya5,Y5,Y2] (bZ (f := aj) (l := os) (xs := [bV (ag L ap 65536)]) bf Z bE ⟨Z,by decide,by decide⟩ (da bf Z (ct (f := aj) Z Z)) Z Z (by (simp; omega)) ⟨Z,Z,Z⟩) ?_ (hs := ⟨Z,trivial⟩))))
    refine xd 2 [.o 2] [] 6 [(1,.obj [pI e1,pI (ag L (ad L a 12) 70),pI (ag L (ad L (ad L a 12) 70) 26),pI 0,pI 0,aH,PV.ref 5 0 none,au 0,au 0]),Yb8,Ya8,Ya5,Y2] (xe [Yb3,Yb7,Yc8,(6,pN i)] (bG (aG (ak (bk ?_)))))
    refine qm N Z Z (qo N Z (cm (a := i) (b := 1) Z Z (by omega) (by omega) (by omega) ?_))
    refine ae N Z Z (⟨(ad L ap 65536),(os ++ [bV (ag L ap 65536)]),(i + 1), ?_, ?_,⟨[(0,0),(1,1),(2,5),(3,3)],by rw [hk]; decide,⟨⟨_,rfl,rfl,rfl⟩,⟨_,rfl,rfl,rfl⟩,⟨_,rfl,rfl,rfl⟩,⟨_,rfl,rfl,rfl⟩,trivial⟩,⟨⟨_,_,rfl,rfl,rfl,rfl⟩,⟨_,_,rfl,rfl,rfl,rfl⟩,⟨_,_,rfl,rfl,rfl,rfl⟩,⟨_,_,rfl,rfl,rfl,rfl⟩,trivial⟩,by rw [hk]; decide⟩⟩)
    ·exact ⟨by omega,by simp [hol]⟩
    · omega
   try simp only [sB] at c11
   refine cG (aL (aL (bq (aG (ak (sr (qo N Z (bj bc Z Z Z (nb Z) ?_))))))))
   refine qo N Z (aC bc Z Z Z Z Z (nb Z) ?_)
   refine aE [Yb7] [(3,.obj [pI e1,pI (ag L (ad L a 12) 70),pI (ag L (ad L (ad L a 12) 70) 26),pI 0,pI 0,aH,PV.ref 2 0 none,au 0,au 0]),Yd,Y5,Yc2] 4 ⟨Z,trivial⟩ Z Z (re (gF (n := 3) (j := 6) Z Z Z Z (bH (n := 3) (ds := [pI e1,pI (ag L (ad L a 12) 70),pI (ag L (ad L (ad L a 12) 70) 26),pI 0,pI 0,pS 1 false ar [],pS 1 false aj os,au 0,au 0]) Z ⟨le_refl _,le_refl _,le_refl _,le_refl _,le_refl _,ax 1 false,le_refl _,le_refl _,le_refl _,trivial⟩ (w_ret ?_))))
   have hex : bK (⟨e1,ag L (ad L a 12) 70,ag L (ad L (ad L a 12) 70) 26,0,0,[],os,0,0⟩ : TRequest) = 0 ∧ (⟨e1,ag L (ad L a 12) 70,ag L (ad L (ad L a 12) 70) 26,0,0,[],os,0,0⟩ : TRequest).bits.length ≤ 25 ∧ (⟨e1,ag L (ad L a 12) 70,ag L (ad L (ad L a 12) 70) 26,0,0,[],os,0,0⟩ : TRequest).vals.length ≤ 25 ∧ 0 ≤ (⟨e1,ag L (ad L a 12) 70,ag L (ad L (ad L a 12) 70) 26,0,0,[],os,0,0⟩ : TRequest).count ∧ (⟨e1,ag L (ad L a 12) 70,ag L (ad L (ad L a 12) 70) 26,0,0,[],os,0,0⟩ : TRequest).count ≤ 25 := by
     refine ⟨(cU (q := _) hfn).2 ?_,by simp; try omega,by simp; try omega,by simp; try omega,by simp; try omega⟩
     constructor
     case bits => simp only; (rw [if_neg (by omega),if_neg (by omega)]; rfl)
     case vals => simp only; (rw [if_neg (by omega),if_pos (by omega)]; exact ⟨by omega,by omega⟩)
     all_goals first|(intro _; rfl)|(intro _; exact ⟨rfl,rfl⟩)|(simp only; omega)
   exact bB (nx1 := 1) (H1 := [Yd]) [(0,0)] (ret_cell bc (by decide) Z Z (nb Z) Z ret_nil) Z (by decide) ⟨⟨_,_,Z,Z,Z,Z⟩,trivial⟩ (by decide) Z ⟨((⟨e1,ag L (ad L a 12) 70,ag L (ad L (ad L a 12) 70) 26,0,0,[],os,0,0⟩ : TRequest)),(ap),hex,Z,Z,Z⟩
 try simp only [sB] at c10
 refine sr (xp N 2 [.o 2] [] [(103,pB (decide (e1 = 22)))] (re (av Z (fun c12 => ?_) (fun c12 => ?_))))
 ·try simp only [sB] at c12
  refine bk (qm N Z Z (qm N Z Z (qo N Z (aN 4 (pI (ag L (ad L (ad L a 12) 70) 65536)) [Ya2,Y0,Y4,Y] [0] (aA L false (ad L (ad L a 12) 70) 65536 (by omega) (by omega)) ?_))))
  refine qo N Z (iY aD bE Z Z Z ?_)
  let Ya4 : Nat × Pv.Obj := (0,.obj [pS 1 false ay L,pN (ad L (ad L (ad L (ad L a 12) 70) 65536) 65536)])
  refine qm N Z Z (qo N Z (aN 4 (pI (ag L (ad L (ad L (ad L a 12) 70) 65536) 65536)) [Ya4,Y0,Y4,Y] [0] (aA L false (ad L (ad L (ad L a 12) 70) 65536) 65536 (by omega) (by omega)) ?_))
  refine qo N Z (iY aD bE Z Z Z ?_)
  let Yb0 : Nat × Pv.Obj := (3,.obj [pI e1,pI (ag L (ad L a 12) 70),pI 0,pI 0,pI 0,aH,aH,au (bV (ag L (ad L (ad L a 12) 70) 65536)),au (bV (ag L (ad L (ad L (ad L a 12) 70) 65536) 65536))])
  refine xm N 6 [.o 6] [] [] 4 [Yb0,Ya4,Y4,Y] (bG (aG (ak (sr (qo N Z (bj bc Z Z Z (nb Z) ?_))))))
  refine qo N Z (aC bc Z Z Z Z Z (nb Z) ?_)
  refine aE [Yb1] [(1,.obj [pI e1,pI (ag L (ad L a 12) 70),pI 0,pI 0,pI 0,aH,aH,au (bV (ag L (ad L (ad L a 12) 70) 65536)),au (bV (ag L (ad L (ad L (ad L a 12) 70) 65536) 65536))]),Yb0,Ya4,Y4] 4 ⟨Z,trivial⟩ Z Z (re (bH (n := 1) (ds := [pI e1,pI (ag L (ad L a 12) 70),pI 0,pI 0,pI 0,pS 1 false ar [],pS 1 false aj [],au (bV (ag L (ad L (ad L a 12) 70) 65536)),au (bV (ag L (ad L (ad L (ad L a 12) 70) 65536) 65536))]) Z ⟨le_refl _,le_refl _,le_refl _,le_refl _,le_refl _,ax 1 false,ax 1 false,le_refl _,le_refl _,trivial⟩ (w_ret ?_)))
  have hex : bK (⟨e1,ag L (ad L a 12) 70,0,0,0,[],[],bV (ag L (ad L (ad L a 12) 70) 65536),bV (ag L (ad L (ad L (ad L a 12) 70) 65536) 65536)⟩ : TRequest) = 0 ∧ (⟨e1,ag L (ad L a 12) 70,0,0,0,[],[],bV (ag L (ad L (ad L a 12) 70) 65536),bV (ag L (ad L (ad L (ad L a 12) 70) 65536) 65536)⟩ : TRequest).bits.length ≤ 25 ∧ (⟨e1,ag L (ad L a 12) 70,0,0,0,[],[],bV (ag L (ad L (ad L a 12) 70) 65536),bV (ag L (ad L (ad L (ad L a 12) 70) 65536) 65536)⟩ : TRequest).vals.length ≤ 25 ∧ 0 ≤ (⟨e1,ag L (ad L a 12) 70,0,0,0,[],[],bV (ag L (ad L (ad L a 12) 70) 65536),bV (ag L (ad L (ad L (ad L a 12) 70) 65536) 65536)⟩ : TRequest).count ∧ (⟨e1,ag L (ad L a 12) 70,0,0,0,[],[],bV (ag L (ad L (ad L a 12) 70) 65536),bV (ag L (ad L (ad L (ad L a 12) 70) 65536) 65536)⟩ : TRequest).count ≤ 25 := by
    refine ⟨(cU (q := _) hfn).2 ?_,by simp; try omega,by simp; try omega,by simp; try omega,by simp; try omega⟩
    constructor
    case bits => simp only; (rw [if_neg (by omega),if_neg (by omega)]; rfl)
    case vals => simp only; (rw [if_neg (by omega),if_neg (by omega),if_neg (by omega)]; rfl)
    all_goals first|(intro _; rfl)|(simp only; omega)
  exact bB (nx1 := 1) (H1 := [Ya4]) [(0,0)] (ret_cell bc (by decide) Z Z (nb Z) Z ret_nil) Z (by decide) ⟨⟨_,_,Z,Z,Z,Z⟩,trivial⟩ (by decide) Z ⟨((⟨e1,ag L (ad L a 12) 70,0,0,0,[],[],bV (ag L (ad L (ad L a 12) 70) 65536),bV (ag L (ad L (ad L (ad L a 12) 70) 65536) 65536)⟩ : TRequest)),(ad L (ad L (ad L (ad L a 12) 70) 65536) 65536),hex,Z,Z,Z⟩
 try simp only [sB] at c12
 refine sr (xp N 2 [.o 2] [] [(115,pB (decide (e1 = 23)))] (re (av Z (fun c13 => ?_) (fun c13 => ?_))))
 ·try simp only [sB] at c13
  refine an ?_
  have h20 := b9 L (ad L (ad L a 12) 70) (n := 20) (by decide)
  have h40 := b9 L (ad L (ad L (ad L a 12) 70) 20) (n := 40) (by decide)
  refine bk (qm N Z Z (qm N Z Z (qo N Z (aN 4 (pI (ag L (ad L (ad L a 12) 70) 20)) [(0,.obj [pS 1 false ay L,pN (ad L (ad L (ad L a 12) 70) 20)]),Y0,Y4,Y] [0] (aA L false (ad L (ad L a 12) 70) 20 (by omega) (by omega)) ?_))))
  let Yc1 : Nat × Pv.Obj := (0,.obj [pS 1 false ay L,pN (ad L (ad L (ad L (ad L a 12) 70) 20) 40)])
  refine qm N Z Z (qo N Z (aN 4 (pI (ag L (ad L (ad L (ad L a 12) 70) 20) 40)) [Yc1,Y0,Y4,Y] [0] (aA L false (ad L (ad L (ad L a 12) 70) 20) 40 (by omega) (by omega)) ?_))
  let Ya1 : Nat × Pv.Obj := (3,.obj [pI e1,pI (ag L (ad L a 12) 70),pI (ag L (ad L (ad L a 12) 70) 20),pI (ag L (ad L (ad L (ad L a 12) 70) 20) 40),pI 0,aH,aH,au 0,au 0])
  refine xm N 6 [.o 6] [] [] 4 [Ya1,Yc1,Y4,Y] (re (an ?_))
  have h22 := b9 L (ad L (ad L (ad L (ad L a 12) 70) 20) 40) (n := 20) (by decide)
  let Yb4 : ah := [(0,.obj [pS 1 false ay L,pN (ad L (ad L (ad L (ad L (ad L a 12) 70) 20) 40) 20)]),Ya1,Y4,Y]
  refine bk (qm N Z Z (qo N Z (aN 4 (pI (ag L (ad L (ad L (ad L (ad L a 12) 70) 20) 40) 20)) Yb4 [0] (aA L false (ad L (ad L (ad L (ad L a 12) 70) 20) 40) 20 (by omega) (by omega)) ?_)))
  let Y1 : Nat × Pv.Obj := (1,.obj [pI e1,pI (ag L (ad L a 12) 70),pI (ag L (ad L (ad L a 12) 70) 20),pI (ag L (ad L (ad L (ad L a 12) 70) 20) 40),pI 0,aH,PV.ref 2 0 none,au 0,au 0])
  refine qa N Z Z (aE [Yb3,Yb1,Yb6,(7,pI (ag L (ad L (ad L (ad L (ad L a 12) 70) 20) 40) 20))] Yb4 4 ⟨Z,Z,Z,Z,trivial⟩ Z Z (re (aP (fO (n := 3) (j := 6) (sz := 1) Z Z Z (iP (fun (ap : Nat) (os : List UInt16) (k : Int) => (os.length : Int) + k ≤ 19 ∧ 0 ≤ k) (fun (ap : Nat) (os : List UInt16) (k : Int) => [Yb3,Yb7,Yc8,(7,pI k)]) 4 (fun (ap : Nat) (os : List UInt16) (k : Int) => [(0,.obj [pS 1 false ay L,pN ap]),Y1,(2,oB true 1 aj os),Y2]) (fun (ap : Nat) (os : List UInt16) (k : Int) => k.toNat) (ad L (ad L (ad L (ad L (ad L a 12) 70) 20) 40) 20) (([] : List UInt16)) (ag L (ad L (ad L (ad L (ad L a 12) 70) 20) 40) 20) ?_ ⟨[(0,0),(1,3),(2,4),(3,1)],by rw [hk]; decide,⟨⟨_,rfl,rfl,rfl⟩,⟨_,rfl,rfl,rfl⟩,⟨_,rfl,rfl,rfl⟩,⟨_,rfl,rfl,rfl⟩,trivial⟩,⟨⟨_,_,rfl,rfl,rfl,rfl⟩,⟨_,_,rfl,rfl,rfl,rfl⟩,⟨_,_,rfl,rfl,rfl,rfl⟩,⟨_,_,rfl,rfl,rfl,rfl⟩,trivial⟩,by rw [hk]; decide⟩ ?_)))))
  · exact ⟨by simp; omega,by omega⟩
  ·intro ap os k hI
   obtain ⟨hkm,hk0⟩ := hI
   let Yc3 : Nat × Pv.Obj := (2,oB true 1 aj os)
   let Yd0 : Nat × Pv.Obj := (0,.obj [pS 1 false ay L,pN ap])
   refine an (sr (xp N 2 [.o 2] [] [(128,pB (decide (0 < k)))] (re (av Z (fun c14 => ?_) (fun c14 => ?_)))))
   ·try simp only [sB] at c14
    refine aw (ak (an (aP (cK N (xq 3 [.o 3] [] ?_)))))
    let Ya6 : Nat × Pv.Obj := (0,.obj [pS 1 false ay L,pN (ad L ap 65536)])
    let Ya9 : Nat × Pv.Obj := (4,oB true 1 aj [bV (ag L ap 65536)])
    let Yb9 : Nat × Pv.Obj := (5,oB true 1 aj (os ++ [bV (ag L ap 65536)]))
    refine xk [(133,PV.ptr 0 0)] [] [Yd0] [Ya6] [Ya6,Y1,Yc3,Y2] (aN 4 (pI (ag L ap 65536)) _ [0] (aA L false ap 65536 (by omega) (by omega)) ⟨Z,Z,Z⟩) (xk [(134,pI (ag L ap 65536))] [] [] [] [Ya6,Y1,Yc3,Y2] (iY aD bE Z Z Z ⟨Z,Z,Z⟩) (xk [(135,au (bV (ag L ap 65536)))] [] [] [Ya9] [Ya9,Ya6,Y1,Yc3,Y2] (bM (f := aj) [bV (ag L ap 65536)] bf Z bE ⟨Z,by decide⟩ (by decide) Z Z Z Z ⟨Z,Z,Z⟩) (xk [(132,PV.ref 2 0 none),(136,PV.ref 4 0 none)] [Ya9] [Yc3] [Yb9,Ya9] [Yb9,Ya9,Ya6,Y1,Y2] (bZ (f := aj) (l := os) (xs := [bV (ag L ap 65536)]) bf Z bE ⟨Z,by decide,by decide⟩ (da bf Z (ct (f := aj) Z Z)) Z Z (by (simp; omega)) ⟨Z,Z,Z⟩) ?_ (hs := ⟨Z,trivial⟩))))
    refine xd 2 [.o 2] [] 6 [(1,.obj [pI e1,pI (ag L (ad L a 12) 70),pI (ag L (ad L (ad L a 12) 70) 20),pI (ag L (ad L (ad L (ad L a 12) 70) 20) 40),pI 0,aH,PV.ref 5 0 none,au 0,au 0]),Yb9,Ya9,Ya6,Y2] (xe [Yb3,Yb7,Yc8,(7,pI k)] (bG (aG (ak (bk ?_)))))
    refine qm N Z Z (qo N Z (jU (r := k - 1) Z Z Z (by omega) ?_))
    refine ae N Z Z (⟨(ad L ap 65536),(os ++ [bV (ag L ap 65536)]),(k - 1), ?_, ?_,⟨[(0,0),(1,1),(2,5),(3,3)],by rw [hk]; decide,⟨⟨_,rfl,rfl,rfl⟩,⟨_,rfl,rfl,rfl⟩,⟨_,rfl,rfl,rfl⟩,⟨_,rfl,rfl,rfl⟩,trivial⟩,⟨⟨_,_,rfl,rfl,rfl,rfl⟩,⟨_,_,rfl,rfl,rfl,rfl⟩,⟨_,_,rfl,rfl,rfl,rfl⟩,⟨_,_,rfl,rfl,rfl,rfl⟩,trivial⟩,by rw [hk]; decide⟩⟩)
    ·exact ⟨by simp; omega,by omega⟩
    · omega
   try simp only [sB] at c14
   refine cG (aL (aL (bq (aG (ak (sr (qo N Z (bj bc Z Z Z (nb Z) ?_))))))))
   refine qo N Z (aC bc Z Z Z Z Z (nb Z) ?_)
   refine aE [Yb7] [(3,.obj [pI e1,pI (ag L (ad L a 12) 70),pI (ag L (ad L (ad L a 12) 70) 20),pI (ag L (ad L (ad L (ad L a 12) 70) 20) 40),pI 0,aH,PV.ref 2 0 none,au 0,au 0]),Yd0,Y1,Yc3] 4 ⟨Z,trivial⟩ Z Z (re (gF (n := 3) (j := 6) Z Z Z Z (bH (n := 3) (ds := [pI e1,pI (ag L (ad L a 12) 70),pI (ag L (ad L (ad L a 12) 70) 20),pI (ag L (ad L (ad L (ad L a 12) 70) 20) 40),pI 0,pS 1 false ar [],pS 1 false aj os,au 0,au 0]) Z ⟨le_refl _,le_refl _,le_refl _,le_refl _,le_refl _,ax 1 false,le_refl _,le_refl _,le_refl _,trivial⟩ (w_ret ?_))))
   have hex : bK (⟨e1,ag L (ad L a 12) 70,ag L (ad L (ad L a 12) 70) 20,ag L (ad L (ad L (ad L a 12) 70) 20) 40,0,[],os,0,0⟩ : TRequest) = 0 ∧ (⟨e1,ag L (ad L a 12) 70,ag L (ad L (ad L a 12) 70) 20,ag L (ad L (ad L (ad L a 12) 70) 20) 40,0,[],os,0,0⟩ : TRequest).bits.length ≤ 25 ∧ (⟨e1,ag L (ad L a 12) 70,ag L (ad L (ad L a 12) 70) 20,ag L (ad L (ad L (ad L a 12) 70) 20) 40,0,[],os,0,0⟩ : TRequest).vals.length ≤ 25 ∧ 0 ≤ (⟨e1,ag L (ad L a 12) 70,ag L (ad L (ad L a 12) 70) 20,ag L (ad L (ad L (ad L a 12) 70) 20) 40,0,[],os,0,0⟩ : TRequest).count ∧ (⟨e1,ag L (ad L a 12) 70,ag L (ad L (ad L a 12) 70) 20,ag L (ad L (ad L (ad L a 12) 70) 20) 40,0,[],os,0,0⟩ : TRequest).count ≤ 25 := by
     refine ⟨(cU (q := _) hfn).2 ?_,by simp; try omega,by simp; try omega,by simp; try omega,by simp; try omega⟩
     constructor
     case bits => simp only; (rw [if_neg (by omega),if_neg (by omega)]; rfl)
     case vals => simp only; (rw [if_neg (by omega),if_neg (by omega),if_pos (by omega)]; omega)
     all_goals first|(intro _; rfl)|(intro _; exact ⟨rfl,rfl⟩)|(simp only; omega)
   exact bB (nx1 := 1) (H1 := [Yd0]) [(0,0)] (ret_cell bc (by decide) Z Z (nb Z) Z ret_nil) Z (by decide) ⟨⟨_,_,Z,Z,Z,Z⟩,trivial⟩ (by decide) Z ⟨((⟨e1,ag L (ad L a 12) 70,ag L (ad L (ad L a 12) 70) 20,ag L (ad L (ad L (ad L a 12) 70) 20) 40,0,[],os,0,0⟩ : TRequest)),(ap),hex,Z,Z,Z⟩
 try simp only [sB] at c13
 refine aw (aG (ak (sr (qo N Z (bj bc Z Z Z (nb Z) ?_)))))
 refine qo N Z (aC bc Z Z Z Z Z (nb Z) ?_)
 refine aE [Yb1] [(1,.obj [pI e1,pI 0,pI 0,pI 0,pI 0,aH,aH,au 0,au 0]),Ya3,Y0,Y4] 4 ⟨Z,trivial⟩ Z Z (re (bH (n := 1) (ds := [pI e1,pI 0,pI 0,pI 0,pI 0,pS 1 false ar [],pS 1 false aj [],au 0,au 0]) Z ⟨le_refl _,le_refl _,le_refl _,le_refl _,le_refl _,ax 1 false,ax 1 false,le_refl _,le_refl _,trivial⟩ (w_ret ?_)))
 have hex : bK (⟨e1,0,0,0,0,[],[],0,0⟩ : TRequest) = 0 ∧ (⟨e1,0,0,0,0,[],[],0,0⟩ : TRequest).bits.length ≤ 25 ∧ (⟨e1,0,0,0,0,[],[],0,0⟩ : TRequest).vals.length ≤ 25 ∧ 0 ≤ (⟨e1,0,0,0,0,[],[],0,0⟩ : TRequest).count ∧ (⟨e1,0,0,0,0,[],[],0,0⟩ : TRequest).count ≤ 25 := by
   refine ⟨(cU (q := _) hfn).2 ?_,by simp; try omega,by simp; try omega,by simp; try omega,by simp; try omega⟩
   constructor
   case bits => simp only; (rw [if_neg (by omega),if_neg (by omega)]; rfl)
   case vals => simp only; (rw [if_neg (by omega),if_neg (by omega),if_neg (by omega)]; rfl)
   all_goals first|(intro _; rfl)|(intro _; exact ⟨rfl,rfl⟩)|(simp only; omega)
 exact bB (nx1 := 1) (H1 := [Ya3]) [(0,0)] (ret_cell bc (by decide) Z Z (nb Z) Z ret_nil) Z (by decide) ⟨⟨_,_,Z,Z,Z,Z⟩,trivial⟩ (by decide) Z ⟨((⟨e1,0,0,0,0,[],[],0,0⟩ : TRequest)),(ad L (ad L a 12) 70),hex,Z,Z,Z⟩
theorem jm (L : List Int) (cl_L : Bool) (a : Nat) (i : Nat) (hL : L.length ≤ 70000000000000) (hi3 : i ≤ 3) :
    T Tryz.prog 43 [PV.ptr 0 0,pN i] 1 [(0,.obj [pS 1 cl_L ay L,pN a])] (fun ra rb rc => ∃ q : List TWindow,∃ b : Nat,(WinsOk q) ∧ (Ret (pS 4 false aR q) 1 [(0,.obj [pS 1 false ay L,pN b])]) ra rb rc) := by
 refine bn aF (n := 71) (rs := [.tmp 4]) Tryz.func43 Z Z Z Z (nb Z) ?_
 intro c N hk
 let Yb4 : Nat × Pv.Obj := (1,.obj [pN (128 * i),pN (128 * i),pN (128 * i),pN (128 * i)])
 refine sr (ae N Z Z (sr (ae N Z Z (sr (xm N 11 [.o 11] [bu (128 * ((i : Nat) : Int)),bu (128 * ((i : Nat) : Int)),bu (128 * ((i : Nat) : Int)),bu (128 * ((i : Nat) : Int))] [(6,PV.ptr 1 0)] 2 [Yb4,(0,.obj [pS 1 cl_L ay L,pN a])] ?_ (hc := ⟨by unfold bu; (omega),by unfold bu; (omega),by unfold bu; (omega),by unfold bu; (omega),trivial⟩))))))
 refine re (sr (qo N Z (w7 dF Z aD (dp ?_))))
 refine qo N Z (cg dF ?_)
 refine qo N Z (aC dF Z Z Z Z Z (nb Z) ?_)
 let Yc0 : Nat × PV := (0,PV.ptr 0 0)
 let Yc2 : ah := [(0,.obj [pS 1 false ay L,pN (ad L a 6)]),(2,.obj [pI 0,pI 0,pI 0,pI 0]),Yb4]
 refine aE [Yc0,(5,aH),(6,PV.ptr 1 0),(7,PV.ptr 2 0)] [(2,.obj [pI 0,pI 0,pI 0,pI 0]),Yb4,(0,.obj [pS 1 cl_L ay L,pN a])] 3 ⟨Z,Z,Z,Z,trivial⟩ Z Z (re (an (sr (qm N Z Z (qo N Z (aN 3 (pI (ag L a 6)) Yc2 [0] (aA L cl_L a 6 (by omega) (by omega)) ?_))))))
 let Yb2 : Nat × PV := (6,PV.ptr 2 0)
 let Yb3 : Nat × PV := (7,PV.ptr 3 0)
 let Yc1 : Nat × PV := (5,PV.ref 1 0 none)
 refine qa N Z Z (aE [Yc0,(5,aH),(6,PV.ptr 1 0),(7,PV.ptr 2 0),(8,pI (ag L a 6))] Yc2 3 ⟨Z,Z,Z,Z,Z,trivial⟩ Z Z (re (aP (dD (s := 5) (sz := 4) Z (Bt (fun (ap : Nat) (os : List TWindow) (f0 : Int) (f1 : Int) (f2 : Int) (f3 : Int) (v0 : Int) (v1 : Int) (v2 : Int) (v3 : Int) (kk : Int) => (os.length : Int) + kk ≤ 5 ∧ -1 ≤ kk ∧ WInv ((128 * i : Nat) : Int) os (d4 v0 v1 v2 v3) (d4 f0 f1 f2 f3)) (fun (ap : Nat) (os : List TWindow) (f0 : Int) (f1 : Int) (f2 : Int) (f3 : Int) (v0 : Int) (v1 : Int) (v2 : Int) (v3 : Int) (kk : Int) => [Yc0,Yc1,Yb2,Yb3,(8,pI kk)]) 4 (fun (ap : Nat) (os : List TWindow) (f0 : Int) (f1 : Int) (f2 : Int) (f3 : Int) (v0 : Int) (v1 : Int) (v2 : Int) (v3 : Int) (kk : Int) => [(0,.obj [pS 1 false ay L,pN ap]),(1,oB true 4 aR os),(2,.obj [pI f0,pI f1,pI f2,pI f3]),(3,.obj [pI v0,pI v1,pI v2,pI v3])]) (fun (ap : Nat) (os : List TWindow) (f0 : Int) (f1 : Int) (f2 : Int) (f3 : Int) (v0 : Int) (v1 : Int) (v2 : Int) (v3 : Int) (kk : Int) => (kk + 1).toNat) (ad L a 6) (([] : List TWindow)) (((128 * i : Nat) : Int)) (((128 * i : Nat) : Int)) (((128 * i : Nat) : Int)) (((128 * i : Nat) : Int)) (0) (0) (0) (0) (ag L a 6) ?_ ⟨[(0,0),(1,3),(2,1),(3,2)],by rw [hk]; decide,⟨⟨_,rfl,rfl,rfl⟩,⟨_,rfl,rfl,rfl⟩,⟨_,rfl,rfl,rfl⟩,⟨_,rfl,rfl,rfl⟩,⟨_,rfl,rfl,rfl⟩,trivial⟩,⟨⟨_,_,rfl,rfl,rfl,rfl⟩,⟨_,_,rfl,rfl,rfl,rfl⟩,⟨_,_,rfl,rfl,rfl,rfl⟩,⟨_,_,rfl,rfl,rfl,rfl⟩,trivial⟩,by rw [hk]; decide⟩ ?_)))))
 · have h6 := b9 L a (n := 6) (by decide); exact ⟨by simp; omega,by omega,WInv.nil _⟩
 ·intro ap os f0 f1 f2 f3 v0 v1 v2 v3 kk hI
  obtain ⟨hok,hkk,hW⟩ := hI
  have hv0 : 0 ≤ v0 ∧ v0 ≤ 23 * (os.length : Int) := hW.vb 0 (by decide)
  have hv1 : 0 ≤ v1 ∧ v1 ≤ 23 * (os.length : Int) := hW.vb 1 (by decide)
  have hv2 : 0 ≤ v2 ∧ v2 ≤ 23 * (os.length : Int) := hW.vb 2 (by decide)
  have hv3 : 0 ≤ v3 ∧ v3 ≤ 23 * (os.length : Int) := hW.vb 3 (by decide)
  have hf0 : ((128 * i : Nat) : Int) ≤ f0 ∧ f0 ≤ ((128 * i : Nat) : Int) + 20 * (os.length : Int) := hW.fb 0 (by decide)
  have hf1 : ((128 * i : Nat) : Int) ≤ f1 ∧ f1 ≤ ((128 * i : Nat) : Int) + 20 * (os.length : Int) := hW.fb 1 (by decide)
  have hf2 : ((128 * i : Nat) : Int) ≤ f2 ∧ f2 ≤ ((128 * i : Nat) : Int) + 20 * (os.length : Int) := hW.fb 2 (by decide)
  have hf3 : ((128 * i : Nat) : Int) ≤ f3 ∧ f3 ≤ ((128 * i : Nat) : Int) + 20 * (os.length : Int) := hW.fb 3 (by decide)
  refine an (an ?_)
  have hlo : (os.length : Int) ≤ 6 := by omega
  refine bk (xp N 2 [.o 2] [] [(24,pB (decide (0 ≤ kk)))] (re (av Z (fun c1 => ?_) (fun c1 => ?_))))
  ·try simp only [sB] at c1
   refine aw (ak (an (aP (sr (qo N Z (bM (f := ay) ([3,0,3,1,2,3] : List Int) ew Z aD ⟨Z,by decide⟩ (by decide) Z Z Z Z ?_))))))
   let Y0 : Nat × Pv.Obj := (2,.obj [pI f0,pI f1,pI f2,pI f3])
   let Y1 : Nat × Pv.Obj := (3,.obj [pI v0,pI v1,pI v2,pI v3])
   let Y3 : Nat × Pv.Obj := (1,oB true 4 aR os)
   let Ya2 : Nat × Pv.Obj := (0,.obj [pS 1 false ay L,pN (ad L ap 6)])
   let Yc7 : Nat × Pv.Obj := (4,oB true 1 ay ([3,0,3,1,2,3] : List Int))
   refine qm N Z Z (qo N Z (aN 5 (pI (ag L ap 6)) [Ya2,Yc7,Y3,Y0,Y1] [0] (aA L false ap 6 (by omega) (by omega)) ?_))
   have hb29 := b9 L ap (n := 6) (by decide)
   refine qo N Z (fg (q := Int.toNat (ag L ap 6)) (f := ay) (l := ([3,0,3,1,2,3] : List Int)) ew Z aD Z Z (by omega) Z Z (by simp; omega) ?_)
   obtain ⟨e1,he1⟩ := bl ([3,0,3,1,2,3] : List Int) (i := Int.toNat (ag L ap 6)) (by simp; omega)
   refine qo N Z (hU (b := e1) (f := ay) aD Z Z Z Z he1 Z ?_)
   refine qa N Z Z (aE [Yc0,Yc1,Yb2,Yb3,(8,pI kk),(9,pI e1)] [Ya2,Yc7,Y3,Y0,Y1] 5 ⟨Z,Z,Z,Z,Z,Z,trivial⟩ Z Z (re (an ?_)))
   let Y : Nat × Pv.Obj := (0,.obj [pS 1 false ay L,pN (ad L (ad L (ad L (ad L ap 6) 4) 3) 18)])
   let Y2 : Nat × Pv.Obj := (0,.obj [pS 1 false ay L,pN (ad L (ad L ap 6) 4)])
   let Y4 : Nat × Pv.Obj := (0,.obj [pS 1 false ay L,pN (ad L (ad L (ad L ap 6) 4) 3)])
   let Yc3 : Nat × PV := (10,PV.ptr 6 0)
   let Yb0 : aI := [Yc0,Yc1,Yb2,Yb3,(8,pI kk),Yc3]
   let Yb1 : aI := [Yc0,(5,PV.ref 8 0 none),Yb2,Yb3,(8,pI kk)]
   let Yb5 : aI := [(36,PV.ref 5 0 none),(38,pI (ag L (ad L ap 6) 4))]
   let Yb6 : aI := [(39,PV.ep 5 (Int.toNat (ag L (ad L ap 6) 4)) 0)]
   let Yc4 : aI := [(37,PV.ptr 0 0)]
   let Yc5 : aI := [(45,PV.ptr 0 0)]
   let Yc6 : aI := [(48,PV.ptr 0 0)]
   rcases (show e1 = 0 ∨ e1 = 1 ∨ e1 = 2 ∨ e1 = 3 from by have hm2 := List.mem_of_getElem? he1; simp only [List.mem_cons,List.not_mem_nil,or_false] at hm2; omega) with hs1|hs1|hs1|hs1
   ·let Ya3 : Nat × Pv.Obj := (4,oB true 1 ay ([3,0,3,1,2,3] : List Int))
    refine aq (s := 9) Z (congrArg pI hs1) (cK N (xq 2 [.o 2] [] (xk [Yb3,(33,pI 0)] [Y1] [] [Y1] [Ya2,Ya3,Y3,Y0,Y1] (dv (q := 0) dF Z aD Z (by omega) Z (by omega) ⟨Z,Z,Z⟩) ?_ (hs := ⟨Z,trivial⟩))))
    let Y9 : Nat × Pv.Obj := (5,oB true 1 ay ([0,0,0,5] : List Int))
    refine xq 1 [.o 1] [] (xk [] [] [] [Y9] [Y9,Ya2,Ya3,Y3,Y0,Y1] (bM (f := ay) ([0,0,0,5] : List Int) ew Z aD ⟨Z,by decide⟩ (by decide) Z Z Z Z ⟨Z,Z,Z⟩) (xq 1 [.o 1] [] (xk Yc4 [] [Ya2] [Y2] [Y2,Y9,Ya3,Y3,Y0,Y1] (aN 6 (pI (ag L (ad L ap 6) 4)) _ [0] (aA L false (ad L ap 6) 4 (by omega) (by omega)) ⟨Z,Z,Z⟩) ?_)))
    have hb38 := b9 L (ad L ap 6) (n := 4) (by decide)
    refine xk Yb5 [Y9] [] [Y9] [Y2,Y9,Ya3,Y3,Y0,Y1] (fg (q := Int.toNat (ag L (ad L ap 6) 4)) (f := ay) (l := ([0,0,0,5] : List Int)) ew Z aD Z Z (by omega) Z Z (by simp; omega) ⟨Z,Z,Z⟩) ?_ (hs := ⟨Z,trivial⟩)
    obtain ⟨e2,he2⟩ := bl ([0,0,0,5] : List Int) (i := Int.toNat (ag L (ad L ap 6) 4)) (by simp; omega)
    refine xk Yb6 [Y9] [] [Y9] [Y2,Y9,Ya3,Y3,Y0,Y1] (hU (b := e2) (f := ay) aD Z Z Z Z he2 Z ⟨Z,Z,Z⟩) ?_ (hs := ⟨Z,trivial⟩)
    have hd4 := List.mem_of_getElem? he2
    simp only [List.mem_cons,List.not_mem_nil,or_false] at hd4
    refine xq 2 [.o 2] [bu (v0 + e2)] ?_ (hc := ⟨by unfold bu; (omega),trivial⟩)
    refine xk [Yb2,(42,pI 0)] [Y0] [] [Y0] [Y2,Y9,Ya3,Y3,Y0,Y1] (dv (q := 0) dF Z aD Z (by omega) Z (by omega) ⟨Z,Z,Z⟩) ?_ (hs := ⟨Z,trivial⟩)
    refine xq 2 [.o 2] [] (xk Yc5 [] [Y2] [Y4] [Y4,Y9,Ya3,Y3,Y0,Y1] (aN 6 (pI (ag L (ad L (ad L ap 6) 4) 3)) _ [0] (aA L false (ad L (ad L ap 6) 4) 3 (by omega) (by omega)) ⟨Z,Z,Z⟩) ?_)
    have hb46 := b9 L (ad L (ad L ap 6) 4) (n := 3) (by decide)
    refine xq 2 [.o 2] [bu (f0 + (ag L (ad L (ad L ap 6) 4) 3))] ?_ (hc := ⟨by unfold bu; (omega),trivial⟩)
    refine xk Yc6 [] [Y4] [Y] [Y,Y9,Ya3,Y3,Y0,Y1] (aN 6 (pI (ag L (ad L (ad L (ad L ap 6) 4) 3) 18)) _ [0] (aA L false (ad L (ad L (ad L ap 6) 4) 3) 18 (by omega) (by omega)) ⟨Z,Z,Z⟩) ?_
    have hb49 := b9 L (ad L (ad L (ad L ap 6) 4) 3) (n := 18) (by decide)
    let Y5 : Nat × Pv.Obj := (6,.obj [pI 0,pI (v0 + e2),pI (f0 + (ag L (ad L (ad L ap 6) 4) 3)),pI (1 + (ag L (ad L (ad L (ad L ap 6) 4) 3) 18))])
    refine xd 4 [.o 4] [bu (1 + (ag L (ad L (ad L (ad L ap 6) 4) 3) 18))] 7 [Y5,Y,Y9,Ya3,Y3,Y0,Y1] ?_ (hc := ⟨by unfold bu; (omega),trivial⟩)
    refine xe [Yc0,Yc1,Yb2,Yb3,(8,pI kk),(9,pI 0),Yc3] (re (an (cK N (xq 12 [.o 12] [bu ((v0 + e2) + (1 + (ag L (ad L (ad L (ad L ap 6) 4) 3) 18))),bu ((f0 + (ag L (ad L (ad L ap 6) 4) 3)) + (1 + (ag L (ad L (ad L (ad L ap 6) 4) 3) 18)))] ?_ (hc := ⟨by unfold bu; (omega),by unfold bu; (omega),trivial⟩)))))
    refine xk [Yb3,(52,pI 0)] [Y1] [] [Y1] [Y5,Y,Y9,Ya3,Y3,Y0,Y1] (dv (q := 0) dF Z aD Z (by omega) Z (by omega) ⟨Z,Z,Z⟩) ?_ (hs := ⟨Z,trivial⟩)
    let Ya7 : Nat × Pv.Obj := (3,.obj [pI ((v0 + e2) + (1 + (ag L (ad L (ad L (ad L ap 6) 4) 3) 18))),pI v1,pI v2,pI v3])
    refine xd 1 [.o 1] [] 7 [Ya7,Y5,Y,Y9,Ya3,Y3,Y0] (xk [Yb2,(53,pI 0)] [Y0] [] [Y0] [Ya7,Y5,Y,Y9,Ya3,Y3,Y0] (dv (q := 0) dF Z aD Z (by omega) Z (by omega) ⟨Z,Z,Z⟩) ?_ (hs := ⟨Z,trivial⟩))
    let Yb7 : Nat × Pv.Obj := (2,.obj [pI ((f0 + (ag L (ad L (ad L ap 6) 4) 3)) + (1 + (ag L (ad L (ad L (ad L ap 6) 4) 3) 18))),pI f1,pI f2,pI f3])
    refine xd 1 [.o 1] [] 7 [Yb7,Ya7,Y5,Y,Y9,Ya3,Y3] (xe Yb0 (re (bk (qm N Z Z (qo N Z (bj cS Z Z Z (nb Z) ?_))))))
    refine qo N Z (bM (f := aR) [(⟨0,v0 + e2,f0 + (ag L (ad L (ad L ap 6) 4) 3),1 + (ag L (ad L (ad L (ad L ap 6) 4) 3) 18)⟩ : TWindow)] cT Z cS ⟨Z,by decide⟩ (by decide) Z Z Z Z ?_)
    refine qo N Z (bZ (f := aR) (l := os) (xs := [(⟨0,v0 + e2,f0 + (ag L (ad L (ad L ap 6) 4) 3),1 + (ag L (ad L (ad L (ad L ap 6) 4) 3) 18)⟩ : TWindow)]) cT Z cS ⟨Z,by decide,by decide⟩ (da cT Z (ct (f := aR) Z Z)) Z Z (by (simp; omega)) ?_)
    refine qa N Z Z (aE Yb1 [(8,oB true 4 aR (os ++ [(⟨0,v0 + e2,f0 + (ag L (ad L (ad L ap 6) 4) 3),1 + (ag L (ad L (ad L (ad L ap 6) 4) 3) 18)⟩ : TWindow)])),(7,oB true 4 aR [(⟨0,v0 + e2,f0 + (ag L (ad L (ad L ap 6) 4) 3),1 + (ag L (ad L (ad L (ad L ap 6) 4) 3) 18)⟩ : TWindow)]),Yb7,Ya7,Y5,Y,Y9,Ya3] 9 ⟨Z,Z,Z,Z,Z,trivial⟩ Z Z (bG (aG (ak (bk (qm N Z Z (qo N Z (jU (r := kk - 1) Z Z Z (by omega) ?_))))))))
    refine ae N Z Z (⟨(ad L (ad L (ad L (ad L ap 6) 4) 3) 18),(os ++ [(⟨0,v0 + e2,f0 + (ag L (ad L (ad L ap 6) 4) 3),1 + (ag L (ad L (ad L (ad L ap 6) 4) 3) 18)⟩ : TWindow)]),((f0 + (ag L (ad L (ad L ap 6) 4) 3)) + (1 + (ag L (ad L (ad L (ad L ap 6) 4) 3) 18))),(f1),(f2),(f3),((v0 + e2) + (1 + (ag L (ad L (ad L (ad L ap 6) 4) 3) 18))),(v1),(v2),(v3),(kk - 1), ?_, ?_,⟨[(0,0),(1,8),(2,2),(3,3)],by rw [hk]; decide,⟨⟨_,rfl,rfl,rfl⟩,⟨_,rfl,rfl,rfl⟩,⟨_,rfl,rfl,rfl⟩,⟨_,rfl,rfl,rfl⟩,⟨_,rfl,rfl,rfl⟩,trivial⟩,⟨⟨_,_,rfl,rfl,rfl,rfl⟩,⟨_,_,rfl,rfl,rfl,rfl⟩,⟨_,_,rfl,rfl,rfl,rfl⟩,⟨_,_,rfl,rfl,rfl,rfl⟩,trivial⟩,by rw [hk]; decide⟩⟩)
    ·refine ⟨by simp; omega,by omega, ?_⟩
     exact hW.step0 (by omega) (by omega) (by omega)
    · omega
   ·let Ya4 : Nat × Pv.Obj := (4,oB true 1 ay ([3,0,3,1,2,3] : List Int))
    refine aq (s := 9) Z (congrArg pI hs1) (cK N (xq 2 [.o 2] [] (xk [Yb3,(33,pI 1)] [Y1] [] [Y1] [Ya2,Ya4,Y3,Y0,Y1] (dv (q := 1) dF Z aD Z (by omega) Z (by omega) ⟨Z,Z,Z⟩) ?_ (hs := ⟨Z,trivial⟩))))
    let Ya : Nat × Pv.Obj := (5,oB true 1 ay ([0,0,0,5] : List Int))
    refine xq 1 [.o 1] [] (xk [] [] [] [Ya] [Ya,Ya2,Ya4,Y3,Y0,Y1] (bM (f := ay) ([0,0,0,5] : List Int) ew Z aD ⟨Z,by decide⟩ (by decide) Z Z Z Z ⟨Z,Z,Z⟩) (xq 1 [.o 1] [] (xk Yc4 [] [Ya2] [Y2] [Y2,Ya,Ya4,Y3,Y0,Y1] (aN 6 (pI (ag L (ad L ap 6) 4)) _ [0] (aA L false (ad L ap 6) 4 (by omega) (by omega)) ⟨Z,Z,Z⟩) ?_)))
    have hb38 := b9 L (ad L ap 6) (n := 4) (by decide)
    refine xk Yb5 [Ya] [] [Ya] [Y2,Ya,Ya4,Y3,Y0,Y1] (fg (q := Int.toNat (ag L (ad L ap 6) 4)) (f := ay) (l := ([0,0,0,5] : List Int)) ew Z aD Z Z (by omega) Z Z (by simp; omega) ⟨Z,Z,Z⟩) ?_ (hs := ⟨Z,trivial⟩)
    obtain ⟨e3,he3⟩ := bl ([0,0,0,5] : List Int) (i := Int.toNat (ag L (ad L ap 6) 4)) (by simp; omega)
    refine xk Yb6 [Ya] [] [Ya] [Y2,Ya,Ya4,Y3,Y0,Y1] (hU (b := e3) (f := ay) aD Z Z Z Z he3 Z ⟨Z,Z,Z⟩) ?_ (hs := ⟨Z,trivial⟩)
    have hd4 := List.mem_of_getElem? he3
    simp only [List.mem_cons,List.not_mem_nil,or_false] at hd4
    refine xq 2 [.o 2] [bu (v1 + e3)] ?_ (hc := ⟨by unfold bu; (omega),trivial⟩)
    refine xk [Yb2,(42,pI 1)] [Y0] [] [Y0] [Y2,Ya,Ya4,Y3,Y0,Y1] (dv (q := 1) dF Z aD Z (by omega) Z (by omega) ⟨Z,Z,Z⟩) ?_ (hs := ⟨Z,trivial⟩)
    refine xq 2 [.o 2] [] (xk Yc5 [] [Y2] [Y4] [Y4,Ya,Ya4,Y3,Y0,Y1] (aN 6 (pI (ag L (ad L (ad L ap 6) 4) 3)) _ [0] (aA L false (ad L (ad L ap 6) 4) 3 (by omega) (by omega)) ⟨Z,Z,Z⟩) ?_)
    have hb46 := b9 L (ad L (ad L ap 6) 4) (n := 3) (by decide)
    refine xq 2 [.o 2] [bu (f1 + (ag L (ad L (ad L ap 6) 4) 3))] ?_ (hc := ⟨by unfold bu; (omega),trivial⟩)
    refine xk Yc6 [] [Y4] [Y] [Y,Ya,Ya4,Y3,Y0,Y1] (aN 6 (pI (ag L (ad L (ad L (ad L ap 6) 4) 3) 18)) _ [0] (aA L false (ad L (ad L (ad L ap 6) 4) 3) 18 (by omega) (by omega)) ⟨Z,Z,Z⟩) ?_
    have hb49 := b9 L (ad L (ad L (ad L ap 6) 4) 3) (n := 18) (by decide)
    let Y6 : Nat × Pv.Obj := (6,.obj [pI 1,pI (v1 + e3),pI (f1 + (ag L (ad L (ad L ap 6) 4) 3)),pI (1 + (ag L (ad L (ad L (ad L ap 6) 4) 3) 18))])
    refine xd 4 [.o 4] [bu (1 + (ag L (ad L (ad L (ad L ap 6) 4) 3) 18))] 7 [Y6,Y,Ya,Ya4,Y3,Y0,Y1] ?_ (hc := ⟨by unfold bu; (omega),trivial⟩)
    refine xe [Yc0,Yc1,Yb2,Yb3,(8,pI kk),(9,pI 1),Yc3] (re (an (cK N (xq 12 [.o 12] [bu ((v1 + e3) + (1 + (ag L (ad L (ad L (ad L ap 6) 4) 3) 18))),bu ((f1 + (ag L (ad L (ad L ap 6) 4) 3)) + (1 + (ag L (ad L (ad L (ad L ap 6) 4) 3) 18)))] ?_ (hc := ⟨by unfold bu; (omega),by unfold bu; (omega),trivial⟩)))))
    refine xk [Yb3,(52,pI 1)] [Y1] [] [Y1] [Y6,Y,Ya,Ya4,Y3,Y0,Y1] (dv (q := 1) dF Z aD Z (by omega) Z (by omega) ⟨Z,Z,Z⟩) ?_ (hs := ⟨Z,trivial⟩)
    let Ya8 : Nat × Pv.Obj := (3,.obj [pI v0,pI ((v1 + e3) + (1 + (ag L (ad L (ad L (ad L ap 6) 4) 3) 18))),pI v2,pI v3])
    refine xd 1 [.o 1] [] 7 [Ya8,Y6,Y,Ya,Ya4,Y3,Y0] (xk [Yb2,(53,pI 1)] [Y0] [] [Y0] [Ya8,Y6,Y,Ya,Ya4,Y3,Y0] (dv (q := 1) dF Z aD Z (by omega) Z (by omega) ⟨Z,Z,Z⟩) ?_ (hs := ⟨Z,trivial⟩))
    let Yb8 : Nat × Pv.Obj := (2,.obj [pI f0,pI ((f1 + (ag L (ad L (ad L ap 6) 4) 3)) + (1 + (ag L (ad L (ad L (ad L ap 6) 4) 3) 18))),pI f2,pI f3])
    refine xd 1 [.o 1] [] 7 [Yb8,Ya8,Y6,Y,Ya,Ya4,Y3] (xe Yb0 (re (bk (qm N Z Z (qo N Z (bj cS Z Z Z (nb Z) ?_))))))
    refine qo N Z (bM (f := aR) [(⟨1,v1 + e3,f1 + (ag L (ad L (ad L ap 6) 4) 3),1 + (ag L (ad L (ad L (ad L ap 6) 4) 3) 18)⟩ : TWindow)] cT Z cS ⟨Z,by decide⟩ (by decide) Z Z Z Z ?_)
    refine qo N Z (bZ (f := aR) (l := os) (xs := [(⟨1,v1 + e3,f1 + (ag L (ad L (ad L ap 6) 4) 3),1 + (ag L (ad L (ad L (ad L ap 6) 4) 3) 18)⟩ : TWindow)]) cT Z cS ⟨Z,by decide,by decide⟩ (da cT Z (ct (f := aR) Z Z)) Z Z (by (simp; omega)) ?_)
    refine qa N Z Z (aE Yb1 [(8,oB true 4 aR (os ++ [(⟨1,v1 + e3,f1 + (ag L (ad L (ad L ap 6) 4) 3),1 + (ag L (ad L (ad L (ad L ap 6) 4) 3) 18)⟩ : TWindow)])),(7,oB true 4 aR [(⟨1,v1 + e3,f1 + (ag L (ad L (ad L ap 6) 4) 3),1 + (ag L (ad L (ad L (ad L ap 6) 4) 3) 18)⟩ : TWindow)]),Yb8,Ya8,Y6,Y,Ya,Ya4] 9 ⟨Z,Z,Z,Z,Z,trivial⟩ Z Z (bG (aG (ak (bk (qm N Z Z (qo N Z (jU (r := kk - 1) Z Z Z (by omega) ?_))))))))
    refine ae N Z Z (⟨(ad L (ad L (ad L (ad L ap 6) 4) 3) 18),(os ++ [(⟨1,v1 + e3,f1 + (ag L (ad L (ad L ap 6) 4) 3),1 + (ag L (ad L (ad L (ad L ap 6) 4) 3) 18)⟩ : TWindow)]),(f0),((f1 + (ag L (ad L (ad L ap 6) 4) 3)) + (1 + (ag L (ad L (ad L (ad L ap 6) 4) 3) 18))),(f2),(f3),(v0),((v1 + e3) + (1 + (ag L (ad L (ad L (ad L ap 6) 4) 3) 18))),(v2),(v3),(kk - 1), ?_, ?_,⟨[(0,0),(1,8),(2,2),(3,3)],by rw [hk]; decide,⟨⟨_,rfl,rfl,rfl⟩,⟨_,rfl,rfl,rfl⟩,⟨_,rfl,rfl,rfl⟩,⟨_,rfl,rfl,rfl⟩,⟨_,rfl,rfl,rfl⟩,trivial⟩,⟨⟨_,_,rfl,rfl,rfl,rfl⟩,⟨_,_,rfl,rfl,rfl,rfl⟩,⟨_,_,rfl,rfl,rfl,rfl⟩,⟨_,_,rfl,rfl,rfl,rfl⟩,trivial⟩,by rw [hk]; decide⟩⟩)
    ·refine ⟨by simp; omega,by omega, ?_⟩
     exact hW.step1 (by omega) (by omega) (by omega)
    · omega
   ·let Ya5 : Nat × Pv.Obj := (4,oB true 1 ay ([3,0,3,1,2,3] : List Int))
    refine aq (s := 9) Z (congrArg pI hs1) (cK N (xq 2 [.o 2] [] (xk [Yb3,(33,pI 2)] [Y1] [] [Y1] [Ya2,Ya5,Y3,Y0,Y1] (dv (q := 2) dF Z aD Z (by omega) Z (by omega) ⟨Z,Z,Z⟩) ?_ (hs := ⟨Z,trivial⟩))))
    let Ya0 : Nat × Pv.Obj := (5,oB true 1 ay ([0,0,0,5] : List Int))
    refine xq 1 [.o 1] [] (xk [] [] [] [Ya0] [Ya0,Ya2,Ya5,Y3,Y0,Y1] (bM (f := ay) ([0,0,0,5] : List Int) ew Z aD ⟨Z,by decide⟩ (by decide) Z Z Z Z ⟨Z,Z,Z⟩) (xq 1 [.o 1] [] (xk Yc4 [] [Ya2] [Y2] [Y2,Ya0,Ya5,Y3,Y0,Y1] (aN 6 (pI (ag L (ad L ap 6) 4)) _ [0] (aA L false (ad L ap 6) 4 (by omega) (by omega)) ⟨Z,Z,Z⟩) ?_)))
    have hb38 := b9 L (ad L ap 6) (n := 4) (by decide)
    refine xk Yb5 [Ya0] [] [Ya0] [Y2,Ya0,Ya5,Y3,Y0,Y1] (fg (q := Int.toNat (ag L (ad L ap 6) 4)) (f := ay) (l := ([0,0,0,5] : List Int)) ew Z aD Z Z (by omega) Z Z (by simp; omega) ⟨Z,Z,Z⟩) ?_ (hs := ⟨Z,trivial⟩)
    obtain ⟨e4,he4⟩ := bl ([0,0,0,5] : List Int) (i := Int.toNat (ag L (ad L ap 6) 4)) (by simp; omega)
    refine xk Yb6 [Ya0] [] [Ya0] [Y2,Ya0,Ya5,Y3,Y0,Y1] (hU (b := e4) (f := ay) aD Z Z Z Z he4 Z ⟨Z,Z,Z⟩) ?_ (hs := ⟨Z,trivial⟩)
    have hd4 := List.mem_of_getElem? he4
    simp only [List.mem_cons,List.not_mem_nil,or_false] at hd4
    refine xq 2 [.o 2] [bu (v2 + e4)] ?_ (hc := ⟨by unfold bu; (omega),trivial⟩)
    refine xk [Yb2,(42,pI 2)] [Y0] [] [Y0] [Y2,Ya0,Ya5,Y3,Y0,Y1] (dv (q := 2) dF Z aD Z (by omega) Z (by omega) ⟨Z,Z,Z⟩) ?_ (hs := ⟨Z,trivial⟩)
    refine xq 2 [.o 2] [] (xk Yc5 [] [Y2] [Y4] [Y4,Ya0,Ya5,Y3,Y0,Y1] (aN 6 (pI (ag L (ad L (ad L ap 6) 4) 3)) _ [0] (aA L false (ad L (ad L ap 6) 4) 3 (by omega) (by omega)) ⟨Z,Z,Z⟩) ?_)
    have hb46 := b9 L (ad L (ad L ap 6) 4) (n := 3) (by decide)
    refine xq 2 [.o 2] [bu (f2 + (ag L (ad L (ad L ap 6) 4) 3))] ?_ (hc := ⟨by unfold bu; (omega),trivial⟩)
    refine xk Yc6 [] [Y4] [Y] [Y,Ya0,Ya5,Y3,Y0,Y1] (aN 6 (pI (ag L (ad L (ad L (ad L ap 6) 4) 3) 18)) _ [0] (aA L false (ad L (ad L (ad L ap 6) 4) 3) 18 (by omega) (by omega)) ⟨Z,Z,Z⟩) ?_
    have hb49 := b9 L (ad L (ad L (ad L ap 6) 4) 3) (n := 18) (by decide)
    let Y7 : Nat × Pv.Obj := (6,.obj [pI 2,pI (v2 + e4),pI (f2 + (ag L (ad L (ad L ap 6) 4) 3)),pI (1 + (ag L (ad L (ad L (ad L ap 6) 4) 3) 18))])
    refine xd 4 [.o 4] [bu (1 + (ag L (ad L (ad L (ad L ap 6) 4) 3) 18))] 7 [Y7,Y,Ya0,Ya5,Y3,Y0,Y1] ?_ (hc := ⟨by unfold bu; (omega),trivial⟩)
    refine xe [Yc0,Yc1,Yb2,Yb3,(8,pI kk),(9,pI 2),Yc3] (re (an (cK N (xq 12 [.o 12] [bu ((v2 + e4) + (1 + (ag L (ad L (ad L (ad L ap 6) 4) 3) 18))),bu ((f2 + (ag L (ad L (ad L ap 6) 4) 3)) + (1 + (ag L (ad L (ad L (ad L ap 6) 4) 3) 18)))] ?_ (hc := ⟨by unfold bu; (omega),by unfold bu; (omega),trivial⟩)))))
    refine xk [Yb3,(52,pI 2)] [Y1] [] [Y1] [Y7,Y,Ya0,Ya5,Y3,Y0,Y1] (dv (q := 2) dF Z aD Z (by omega) Z (by omega) ⟨Z,Z,Z⟩) ?_ (hs := ⟨Z,trivial⟩)
    let Ya9 : Nat × Pv.Obj := (3,.obj [pI v0,pI v1,pI ((v2 + e4) + (1 + (ag L (ad L (ad L (ad L ap 6) 4) 3) 18))),pI v3])
    refine xd 1 [.o 1] [] 7 [Ya9,Y7,Y,Ya0,Ya5,Y3,Y0] (xk [Yb2,(53,pI 2)] [Y0] [] [Y0] [Ya9,Y7,Y,Ya0,Ya5,Y3,Y0] (dv (q := 2) dF Z aD Z (by omega) Z (by omega) ⟨Z,Z,Z⟩) ?_ (hs := ⟨Z,trivial⟩))
    let Yb9 : Nat × Pv.Obj := (2,.obj [pI f0,pI f1,pI ((f2 + (ag L (ad L (ad L ap 6) 4) 3)) + (1 + (ag L (ad L (ad L (ad L ap 6) 4) 3) 18))),pI f3])
    refine xd 1 [.o 1] [] 7 [Yb9,Ya9,Y7,Y,Ya0,Ya5,Y3] (xe Yb0 (re (bk (qm N Z Z (qo N Z (bj cS Z Z Z (nb Z) ?_))))))
    refine qo N Z (bM (f := aR) [(⟨2,v2 + e4,f2 + (ag L (ad L (ad L ap 6) 4) 3),1 + (ag L (ad L (ad L (ad L ap 6) 4) 3) 18)⟩ : TWindow)] cT Z cS ⟨Z,by decide⟩ (by decide) Z Z Z Z ?_)
    refine qo N Z (bZ (f := aR) (l := os) (xs := [(⟨2,v2 + e4,f2 + (ag L (ad L (ad L ap 6) 4) 3),1 + (ag L (ad L (ad L (ad L ap 6) 4) 3) 18)⟩ : TWindow)]) cT Z cS ⟨Z,by decide,by decide⟩ (da cT Z (ct (f := aR) Z Z)) Z Z (by (simp; omega)) ?_)
    refine qa N Z Z (aE Yb1 [(8,oB true 4 aR (os ++ [(⟨2,v2 + e4,f2 + (ag L (ad L (ad L ap 6) 4) 3),1 + (ag L (ad L (ad L (ad L ap 6) 4) 3) 18)⟩ : TWindow)])),(7,oB true 4 aR [(⟨2,v2 + e4,f2 + (ag L (ad L (ad L ap 6) 4) 3),1 + (ag L (ad L (ad L (ad L ap 6) 4) 3) 18)⟩ : TWindow)]),Yb9,Ya9,Y7,Y,Ya0,Ya5] 9 ⟨Z,Z,Z,Z,Z,trivial⟩ Z Z (bG (aG (ak (bk (qm N Z Z (qo N Z (jU (r := kk - 1) Z Z Z (by omega) ?_))))))))
    refine ae N Z Z (⟨(ad L (ad L (ad L (ad L ap 6) 4) 3) 18),(os ++ [(⟨2,v2 + e4,f2 + (ag L (ad L (ad L ap 6) 4) 3),1 + (ag L (ad L (ad L (ad L ap 6) 4) 3) 18)⟩ : TWindow)]),(f0),(f1),((f2 + (ag L (ad L (ad L ap 6) 4) 3)) + (1 + (ag L (ad L (ad L (ad L ap 6) 4) 3) 18))),(f3),(v0),(v1),((v2 + e4) + (1 + (ag L (ad L (ad L (ad L ap 6) 4) 3) 18))),(v3),(kk - 1), ?_, ?_,⟨[(0,0),(1,8),(2,2),(3,3)],by rw [hk]; decide,⟨⟨_,rfl,rfl,rfl⟩,⟨_,rfl,rfl,rfl⟩,⟨_,rfl,rfl,rfl⟩,⟨_,rfl,rfl,rfl⟩,⟨_,rfl,rfl,rfl⟩,trivial⟩,⟨⟨_,_,rfl,rfl,rfl,rfl⟩,⟨_,_,rfl,rfl,rfl,rfl⟩,⟨_,_,rfl,rfl,rfl,rfl⟩,⟨_,_,rfl,rfl,rfl,rfl⟩,trivial⟩,by rw [hk]; decide⟩⟩)
    ·refine ⟨by simp; omega,by omega, ?_⟩
     exact hW.step2 (by omega) (by omega) (by omega)
    · omega
   ·let Ya6 : Nat × Pv.Obj := (4,oB true 1 ay ([3,0,3,1,2,3] : List Int))
    refine aq (s := 9) Z (congrArg pI hs1) (cK N (xq 2 [.o 2] [] (xk [Yb3,(33,pI 3)] [Y1] [] [Y1] [Ya2,Ya6,Y3,Y0,Y1] (dv (q := 3) dF Z aD Z (by omega) Z (by omega) ⟨Z,Z,Z⟩) ?_ (hs := ⟨Z,trivial⟩))))
    let Ya1 : Nat × Pv.Obj := (5,oB true 1 ay ([0,0,0,5] : List Int))
    refine xq 1 [.o 1] [] (xk [] [] [] [Ya1] [Ya1,Ya2,Ya6,Y3,Y0,Y1] (bM (f := ay) ([0,0,0,5] : List Int) ew Z aD ⟨Z,by decide⟩ (by decide) Z Z Z Z ⟨Z,Z,Z⟩) (xq 1 [.o 1] [] (xk Yc4 [] [Ya2] [Y2] [Y2,Ya1,Ya6,Y3,Y0,Y1] (aN 6 (pI (ag L (ad L ap 6) 4)) _ [0] (aA L false (ad L ap 6) 4 (by omega) (by omega)) ⟨Z,Z,Z⟩) ?_)))
    have hb38 := b9 L (ad L ap 6) (n := 4) (by decide)
    refine xk Yb5 [Ya1] [] [Ya1] [Y2,Ya1,Ya6,Y3,Y0,Y1] (fg (q := Int.toNat (ag L (ad L ap 6) 4)) (f := ay) (l := ([0,0,0,5] : List Int)) ew Z aD Z Z (by omega) Z Z (by simp; omega) ⟨Z,Z,Z⟩) ?_ (hs := ⟨Z,trivial⟩)
    obtain ⟨e5,he5⟩ := bl ([0,0,0,5] : List Int) (i := Int.toNat (ag L (ad L ap 6) 4)) (by simp; omega)
    refine xk Yb6 [Ya1] [] [Ya1] [Y2,Ya1,Ya6,Y3,Y0,Y1] (hU (b := e5) (f := ay) aD Z Z Z Z he5 Z ⟨Z,Z,Z⟩) ?_ (hs := ⟨Z,trivial⟩)
    have hd4 := List.mem_of_getElem? he5
    simp only [List.mem_cons,List.not_mem_nil,or_false] at hd4
    refine xq 2 [.o 2] [bu (v3 + e5)] ?_ (hc := ⟨by unfold bu; (omega),trivial⟩)
    refine xk [Yb2,(42,pI 3)] [Y0] [] [Y0] [Y2,Ya1,Ya6,Y3,Y0,Y1] (dv (q := 3) dF Z aD Z (by omega) Z (by omega) ⟨Z,Z,Z⟩) ?_ (hs := ⟨Z,trivial⟩)
    refine xq 2 [.o 2] [] (xk Yc5 [] [Y2] [Y4] [Y4,Ya1,Ya6,Y3,Y0,Y1] (aN 6 (pI (ag L (ad L (ad L ap 6) 4) 3)) _ [0] (aA L false (ad L (ad L ap 6) 4) 3 (by omega) (by omega)) ⟨Z,Z,Z⟩) ?_)
    have hb46 := b9 L (ad L (ad L ap 6) 4) (n := 3) (by decide)
    refine xq 2 [.o 2] [bu (f3 + (ag L (ad L (ad L ap 6) 4) 3))] ?_ (hc := ⟨by unfold bu; (omega),trivial⟩)
    refine xk Yc6 [] [Y4] [Y] [Y,Ya1,Ya6,Y3,Y0,Y1] (aN 6 (pI (ag L (ad L (ad L (ad L ap 6) 4) 3) 18)) _ [0] (aA L false (ad L (ad L (ad L ap 6) 4) 3) 18 (by omega) (by omega)) ⟨Z,Z,Z⟩) ?_
    have hb49 := b9 L (ad L (ad L (ad L ap 6) 4) 3) (n := 18) (by decide)
    let Y8 : Nat × Pv.Obj := (6,.obj [pI 3,pI (v3 + e5),pI (f3 + (ag L (ad L (ad L ap 6) 4) 3)),pI (1 + (ag L (ad L (ad L (ad L ap 6) 4) 3) 18))])
    refine xd 4 [.o 4] [bu (1 + (ag L (ad L (ad L (ad L ap 6) 4) 3) 18))] 7 [Y8,Y,Ya1,Ya6,Y3,Y0,Y1] ?_ (hc := ⟨by unfold bu; (omega),trivial⟩)
    refine xe [Yc0,Yc1,Yb2,Yb3,(8,pI kk),(9,pI 3),Yc3] (re (an (cK N (xq 12 [.o 12] [bu ((v3 + e5) + (1 + (ag L (ad L (ad L (ad L ap 6) 4) 3) 18))),bu ((f3 + (ag L (ad L (ad L ap 6) 4) 3)) + (1 + (ag L (ad L (ad L (ad L ap 6) 4) 3) 18)))] ?_ (hc := ⟨by unfold bu; (omega),by unfold bu; (omega),trivial⟩)))))
    refine xk [Yb3,(52,pI 3)] [Y1] [] [Y1] [Y8,Y,Ya1,Ya6,Y3,Y0,Y1] (dv (q := 3) dF Z aD Z (by omega) Z (by omega) ⟨Z,Z,Z⟩) ?_ (hs := ⟨Z,trivial⟩)
    let Yb : Nat × Pv.Obj := (3,.obj [pI v0,pI v1,pI v2,pI ((v3 + e5) + (1 + (ag L (ad L (ad L (ad L ap 6) 4) 3) 18)))])
    refine xd 1 [.o 1] [] 7 [Yb,Y8,Y,Ya1,Ya6,Y3,Y0] (xk [Yb2,(53,pI 3)] [Y0] [] [Y0] [Yb,Y8,Y,Ya1,Ya6,Y3,Y0] (dv (q := 3) dF Z aD Z (by omega) Z (by omega) ⟨Z,Z,Z⟩) ?_ (hs := ⟨Z,trivial⟩))
    let Yc : Nat × Pv.Obj := (2,.obj [pI f0,pI f1,pI f2,pI ((f3 + (ag L (ad L (ad L ap 6) 4) 3)) + (1 + (ag L (ad L (ad L (ad L ap 6) 4) 3) 18)))])
    refine xd 1 [.o 1] [] 7 [Yc,Yb,Y8,Y,Ya1,Ya6,Y3] (xe Yb0 (re (bk (qm N Z Z (qo N Z (bj cS Z Z Z (nb Z) ?_))))))
    refine qo N Z (bM (f := aR) [(⟨3,v3 + e5,f3 + (ag L (ad L (ad L ap 6) 4) 3),1 + (ag L (ad L (ad L (ad L ap 6) 4) 3) 18)⟩ : TWindow)] cT Z cS ⟨Z,by decide⟩ (by decide) Z Z Z Z ?_)
    refine qo N Z (bZ (f := aR) (l := os) (xs := [(⟨3,v3 + e5,f3 + (ag L (ad L (ad L ap 6) 4) 3),1 + (ag L (ad L (ad L (ad L ap 6) 4) 3) 18)⟩ : TWindow)]) cT Z cS ⟨Z,by decide,by decide⟩ (da cT Z (ct (f := aR) Z Z)) Z Z (by (simp; omega)) ?_)
    refine qa N Z Z (aE Yb1 [(8,oB true 4 aR (os ++ [(⟨3,v3 + e5,f3 + (ag L (ad L (ad L ap 6) 4) 3),1 + (ag L (ad L (ad L (ad L ap 6) 4) 3) 18)⟩ : TWindow)])),(7,oB true 4 aR [(⟨3,v3 + e5,f3 + (ag L (ad L (ad L ap 6) 4) 3),1 + (ag L (ad L (ad L (ad L ap 6) 4) 3) 18)⟩ : TWindow)]),Yc,Yb,Y8,Y,Ya1,Ya6] 9 ⟨Z,Z,Z,Z,Z,trivial⟩ Z Z (bG (aG (ak (bk (qm N Z Z (qo N Z (jU (r := kk - 1) Z Z Z (by omega) ?_))))))))
    refine ae N Z Z (⟨(ad L (ad L (ad L (ad L ap 6) 4) 3) 18),(os ++ [(⟨3,v3 + e5,f3 + (ag L (ad L (ad L ap 6) 4) 3),1 + (ag L (ad L (ad L (ad L ap 6) 4) 3) 18)⟩ : TWindow)]),(f0),(f1),(f2),((f3 + (ag L (ad L (ad L ap 6) 4) 3)) + (1 + (ag L (ad L (ad L (ad L ap 6) 4) 3) 18))),(v0),(v1),(v2),((v3 + e5) + (1 + (ag L (ad L (ad L (ad L ap 6) 4) 3) 18))),(kk - 1), ?_, ?_,⟨[(0,0),(1,8),(2,2),(3,3)],by rw [hk]; decide,⟨⟨_,rfl,rfl,rfl⟩,⟨_,rfl,rfl,rfl⟩,⟨_,rfl,rfl,rfl⟩,⟨_,rfl,rfl,rfl⟩,⟨_,rfl,rfl,rfl⟩,trivial⟩,⟨⟨_,_,rfl,rfl,rfl,rfl⟩,⟨_,_,rfl,rfl,rfl,rfl⟩,⟨_,_,rfl,rfl,rfl,rfl⟩,⟨_,_,rfl,rfl,rfl,rfl⟩,trivial⟩,by rw [hk]; decide⟩⟩)
    ·refine ⟨by simp; omega,by omega, ?_⟩
     exact hW.step3 (by omega) (by omega) (by omega)
    · omega
  try simp only [sB] at c1
  refine cG (aL (aL (bq (ak (sr (qm N Z Z (ae N Z Z (gE (s := 4) (f := aR) Z Z gG (w_ret ?_)))))))))
  have hex : WinsOk os := by
    exact hW.ok (by omega) (by omega)
  exact bB (nx1 := 1) (H1 := [(0,.obj [pS 1 false ay L,pN ap])]) [(0,0)] (ret_tmp Z ret_nil) Z (by decide) ⟨⟨_,_,Z,Z,Z,Z⟩,trivial⟩ (by decide) Z ⟨(os),(ap),hex,Z,Z,Z⟩
theorem jK (L : List Int) (cl_L : Bool) (a : Nat) (hL : L.length ≤ 70000000000000) :
    T Tryz.prog 15 [PV.ptr 0 0] 1 [(0,.obj [pS 1 cl_L ay L,pN a])] (fun ra rb rc => ∃ X : TTable,∃ b : Nat,(TabG X) ∧ (Ret (PV.f (vL X)) 1 [(0,.obj [pS 1 false ay L,pN b])]) ra rb rc) := by
 refine bn aF (n := 83) (rs := [.cell 2 57]) Tryz.func15 Z Z Z Z (nb Z) ?_
 intro c N hk
 refine sr (qo N Z (cg gK ?_))
 let Y5 : Nat × PV := (0,PV.ptr 0 0)
 let Ya0 : Nat × Pv.Obj := (0,.obj [pS 1 false ay L,pN (ad L a 4)])
 let Ya5 : Nat × Pv.Obj := (1,.obj [pI 0,aH])
 let Yb4 : Nat × PV := (2,PV.ptr 1 0)
 refine aE [Y5,Yb4] [Ya5,(0,.obj [pS 1 cl_L ay L,pN a])] 2 ⟨Z,Z,trivial⟩ Z Z (re (sr (qm N Z Z (qo N Z (aN 2 (pI (ag L a 4)) [Ya0,Ya5] [0] (aA L cl_L a 4 (by omega) (by omega)) ?_)))))
 have hb11 := b9 L a (n := 4) (by decide)
 refine qo N Z (gm (r := 1 + (ag L a 4)) Z Z Z (by omega) ?_)
 let Y3 : Nat × PV := (3,pI (1 + (ag L a 4)))
 refine qa N Z Z (aE [Y5,Yb4,Y3] [Ya0,Ya5] 2 ⟨Z,Z,Z,trivial⟩ Z Z (re (sr (qo N Z (cg gK ?_)))))
 let Ya6 : Nat × Pv.Obj := (2,.obj [pI 0,aH])
 let Y9 : ah := [(0,.obj [pS 1 false ay L,pN (ad L (ad L a 4) 5)]),Ya6,Ya5]
 refine aE [Y5,Yb4,Y3,(4,PV.ptr 2 0)] [Ya6,Ya0,Ya5] 3 ⟨Z,Z,Z,Z,trivial⟩ Z Z (re (sr (qm N Z Z (qo N Z (aN 3 (pI (ag L (ad L a 4) 5)) Y9 [0] (aA L false (ad L a 4) 5 (by omega) (by omega)) ?_)))))
 have hb14 := b9 L (ad L a 4) (n := 5) (by decide)
 refine qa N Z Z (aE [Y5,Yb4,Y3,(4,PV.ptr 2 0),(5,pI (ag L (ad L a 4) 5))] Y9 3 ⟨Z,Z,Z,Z,Z,trivial⟩ Z Z (re (an (an ?_))))
 have hn4 := b9 L a (n := 4) (by decide)
 let Y1 : Nat × Pv.Obj := (3,.obj [pI 0,aH])
 let Y2 : Nat × Pv.Obj := (1,.obj [pI 0,PV.ref 2 0 none])
 let Y8 : Nat × PV := (2,PV.ptr 3 0)
 let Yb5 : Nat × PV := (4,PV.ptr 1 0)
 refine bk (ae N Z Z (aP (fO (n := 2) (j := 1) (sz := 5) Z Z Z (yh (fun (ap : Nat) (ts : List TTenant) (at1 : Int) (i : Nat) => (i : Int) ≤ 1 + ag L a 4 ∧ ts.length = i ∧ (∀ p ∈ ts,WinsOk p.windows) ∧ 0 ≤ at1 ∧ at1 ≤ 5 + 172 * (i : Int)) (fun (ap : Nat) (ts : List TTenant) (at1 : Int) (i : Nat) => [Y5,Y8,Y3,Yb5,(5,pI at1),(6,pN i)]) 4 (fun (ap : Nat) (ts : List TTenant) (at1 : Int) (i : Nat) => [(0,.obj [pS 1 false ay L,pN ap]),Y2,(2,oB true 5 cn ts),Y1]) (fun (ap : Nat) (ts : List TTenant) (at1 : Int) (i : Nat) => (1 + ag L a 4).toNat - i) (ad L (ad L a 4) 5) (([] : List TTenant)) (ag L (ad L a 4) 5) (0) ?_ ⟨[(0,0),(1,2),(2,3),(3,1)],by rw [hk]; decide,⟨⟨_,rfl,rfl,rfl⟩,⟨_,rfl,rfl,rfl⟩,⟨_,rfl,rfl,rfl⟩,⟨_,rfl,rfl,rfl⟩,⟨_,rfl,rfl,rfl⟩,⟨_,rfl,rfl,rfl⟩,trivial⟩,⟨⟨_,_,rfl,rfl,rfl,rfl⟩,⟨_,_,rfl,rfl,rfl,rfl⟩,⟨_,_,rfl,rfl,rfl,rfl⟩,⟨_,_,rfl,rfl,rfl,rfl⟩,trivial⟩,by rw [hk]; decide⟩ ?_))))
 · exact ⟨by omega,rfl,by simp,by omega,by omega⟩
 ·intro ap ts at1 i hI
  obtain ⟨hi,htl,hw,hat0,hat⟩ := hI
  refine an (sr (qm N Z Z (qm N Z Z (qo N Z (cZ Z Z ?_)))))
  let Y4 : Nat × Pv.Obj := (2,oB true 5 cn ts)
  refine re (av Z (fun c1 => ?_) (fun c1 => ?_))
  ·try simp only [sB] at c1
   refine aw (ak (an (aP (sr (qm N Z Z (qo N Z (aN 4 (pI (ag L ap 3)) [(0,.obj [pS 1 false ay L,pN (ad L ap 3)]),Y2,Y4,Y1] [0] (aA L false ap 3 (by omega) (by omega)) ?_)))))))
   have hb21 := b9 L ap (n := 3) (by decide)
   refine qo N Z (gm (r := 1 + (ag L ap 3)) Z Z Z (by omega) ?_)
   refine qm N Z Z (qo N Z (gm (r := (1 + (ag L ap 3)) + ((i : Nat) : Int)) Z Z Z (by omega) ?_))
   refine qm N Z Z (qo N Z (aN 4 (pI (ag L (ad L ap 3) 2)) [(0,.obj [pS 1 false ay L,pN (ad L (ad L ap 3) 2)]),Y2,Y4,Y1] [0] (aA L false (ad L ap 3) 2 (by omega) (by omega)) ?_))
   have hb26 := b9 L (ad L ap 3) (n := 2) (by decide)
   refine qo N Z (hY aD jS Z Z Z ?_)
   refine qo N Z (nW Z Z (by decide) ?_)
   refine qo N Z (oI Z Z ?_)
   let Ya1 : ah := [(0,.obj [pS 1 false ay L,pN (ad L (ad L (ad L ap 3) 2) 4)]),Y2,Y4,Y1]
   refine qm N Z Z (qo N Z (aN 4 (pI (ag L (ad L (ad L ap 3) 2) 4)) Ya1 [0] (aA L false (ad L (ad L ap 3) 2) 4 (by omega) (by omega)) ?_))
   have hb31 := b9 L (ad L (ad L ap 3) 2) (n := 4) (by decide)
   refine qo N Z (gm (r := 1 + (ag L (ad L (ad L ap 3) 2) 4)) Z Z Z (by omega) ?_)
   refine qm N Z Z (qm N Z Z (qo N Z (nc (p := fun (q1 : List TWindow) (b1 : Nat) => WinsOk q1) (r2 := fun q1 b1 => pS 4 false aR q1) (nx1 := 4) (H2 := Ya1) (H3 := fun q1 b1 => [(0,.obj [pS 1 false ay L,pN b1]),Y2,Y4,Y1]) [0] [.obj [pS 1 false ay L,pN (ad L (ad L (ad L ap 3) 2) 4)]] Z Z Z (jf (by decide) ⟨Z,trivial⟩) Z Z Z Z Z Z (jm L false (ad L (ad L (ad L ap 3) 2) 4) i (by omega) (by omega)) (fun q1 b1 => Z) (fun q1 b1 => kG Z) (fun q1 b1 => Z) (fun q1 b1 => Z) Z (fun q1 b1 => Z) (fun q1 b1 hq1 => ?_))))
   refine qo N Z (bX dG Z Z (br Z aD Z Z Z (nb Z) (br Z jS Z Z Z (nb Z) (br Z aD Z Z Z (nb Z) (br Z cT Z Z Z (nb Z) (dp ?_))))))
   refine qo N Z (cg dG ?_)
   refine qo N Z (aC dG Z Z Z Z Z (nb Z) ?_)
   let Ya9 : Nat × PV := (7,PV.ptr 1 0)
   let Yb : Nat × Pv.Obj := (3,.obj [pI 0,PV.ref 4 0 none])
   let Yb3 : Nat × Pv.Obj := (4,oB true 5 cn ts)
   refine aE [Y5,Y8,Y3,Yb5,(5,pI at1),(6,pN i),(7,PV.ptr 4 0)] [(4,.obj [pI ((1 + (ag L ap 3)) + ((i : Nat) : Int)),pK .u32 (dx .or .u32 12812798 (IntKind.u32.wrap ((IntKind.u32.wrap (ag L (ad L ap 3) 2)) * 2 ^ min (Int.toNat 9) IntKind.u32.bits))),pI (1 + (ag L (ad L (ad L ap 3) 2) 4)),pS 4 false aR q1,aH]),(0,.obj [pS 1 false ay L,pN b1]),Y2,Y4,Y1] 5 ⟨Z,Z,Z,Z,Z,Z,Z,trivial⟩ Z Z (re (yk (fun (a2 : Nat) (fu : Int) => True) (fun (a2 : Nat) (fu : Int) => [Y5,(2,PV.ptr 2 0),Y3,(4,PV.ptr 3 0),(5,pI at1),(6,pN i),Ya9]) 5 (fun (a2 : Nat) (fu : Int) => [(0,.obj [pS 1 false ay L,pN a2]),(1,.obj [pI ((1 + (ag L ap 3)) + ((i : Nat) : Int)),pK .u32 fu,pI (1 + (ag L (ad L (ad L ap 3) 2) 4)),pS 4 false aR q1,aH]),Ya6,Yb,Yb3]) ?_ ?_))
   ·let Y : Nat × Pv.Obj := (4,.obj [pI ((1 + (ag L ap 3)) + ((i : Nat) : Int)),pK .u32 (dx .or .u32 12812798 (IntKind.u32.wrap ((IntKind.u32.wrap (ag L (ad L ap 3) 2)) * 2 ^ min (Int.toNat 9) IntKind.u32.bits))),pI (1 + (ag L (ad L (ad L ap 3) 2) 4)),pS 4 false aR q1,aH])
    let Ya8 : ah := [(0,.obj [pS 1 false ay L,pN (ad L b1 5)]),Y,Y2,Y4,Y1]
    refine sr (qm N Z Z (qo N Z (aN 5 (pI (ag L b1 5)) Ya8 [0] (aA L false b1 5 (by omega) (by omega)) ?_)))
    refine qo N Z (bF Z Z ?_)
    refine aE [Y5,Y8,Y3,Yb5,(5,pI at1),(6,pN i),(7,PV.ptr 4 0),(39,pB (decide (ag L b1 5 = 0)))] Ya8 5 ⟨Z,Z,Z,Z,Z,Z,Z,Z,trivial⟩ Z Z (re (av Z (fun c2 => ?_) (fun c2 => ?_)))
    ·try simp only [sB] at c2
     refine bk (qm N Z Z (qo N Z (aN 5 (pI (ag L (ad L b1 5) 24)) [(0,.obj [pS 1 false ay L,pN (ad L (ad L b1 5) 24)]),Y,Y2,Y4,Y1] [0] (aA L false (ad L b1 5) 24 (by omega) (by omega)) ?_)))
     have hb41 := b9 L (ad L b1 5) (n := 24) (by decide)
     refine qo N Z (hY aD jR Z Z Z ?_)
     refine qo N Z (nW Z Z (by exact wi rfl _) ?_)
     refine qo N Z (oI Z Z ?_)
     refine qo N Z (aX dG Z Z jS (by decide) Z ?_)
     refine qo N Z (aC jS Z Z Z Z Z (nb Z) ?_)
     refine re (⟨(ad L (ad L b1 5) 24),(dx .or .u32 65608 (IntKind.u32.wrap (1 * 2 ^ min (Int.toNat (IntKind.u64.wrap (ag L (ad L b1 5) 24))) IntKind.u32.bits))), ?_,⟨[(0,0),(1,4),(2,3),(3,1),(4,2)],by rw [hk]; decide,⟨⟨_,rfl,rfl,rfl⟩,⟨_,rfl,rfl,rfl⟩,⟨_,rfl,rfl,rfl⟩,⟨_,rfl,rfl,rfl⟩,⟨_,rfl,rfl,rfl⟩,⟨_,rfl,rfl,rfl⟩,⟨_,rfl,rfl,rfl⟩,trivial⟩,⟨⟨_,_,rfl,rfl,rfl,rfl⟩,⟨_,_,rfl,rfl,rfl,rfl⟩,⟨_,_,rfl,rfl,rfl,rfl⟩,⟨_,_,rfl,rfl,rfl,rfl⟩,⟨_,_,rfl,rfl,rfl,rfl⟩,trivial⟩,by rw [hk]; decide⟩⟩)
     trivial
    try simp only [sB] at c2
    refine aw (ak (⟨(ad L b1 5),(dx .or .u32 12812798 (IntKind.u32.wrap ((IntKind.u32.wrap (ag L (ad L ap 3) 2)) * 2 ^ min (Int.toNat 9) IntKind.u32.bits))), ?_,⟨[(0,0),(1,4),(2,3),(3,1),(4,2)],by rw [hk]; decide,⟨⟨_,rfl,rfl,rfl⟩,⟨_,rfl,rfl,rfl⟩,⟨_,rfl,rfl,rfl⟩,⟨_,rfl,rfl,rfl⟩,⟨_,rfl,rfl,rfl⟩,⟨_,rfl,rfl,rfl⟩,⟨_,rfl,rfl,rfl⟩,trivial⟩,⟨⟨_,_,rfl,rfl,rfl,rfl⟩,⟨_,_,rfl,rfl,rfl,rfl⟩,⟨_,_,rfl,rfl,rfl,rfl⟩,⟨_,_,rfl,rfl,rfl,rfl⟩,⟨_,_,rfl,rfl,rfl,rfl⟩,trivial⟩,by rw [hk]; decide⟩⟩))
    trivial
   intro a2 fu hJ
   let Yb2 : Nat × Pv.Obj := (0,.obj [pS 1 false ay L,pN (ad L a2 2)])
   refine an (sr (qm N Z Z (qo N Z (aN 5 (pI (ag L a2 2)) [Yb2,(1,.obj [pI ((1 + (ag L ap 3)) + ((i : Nat) : Int)),pK .u32 fu,pI (1 + (ag L (ad L (ad L ap 3) 2) 4)),pS 4 false aR q1,aH]),Ya6,Yb,Yb3] [0] (aA L false a2 2 (by omega) (by omega)) ?_))))
   have hb47 := b9 L a2 (n := 2) (by decide)
   let Y7 : Nat × Pv.Obj := (4,.obj [pI 0,PV.ref 5 0 none])
   let Ya2 : Nat × Pv.Obj := (5,oB true 5 cn ts)
   let Yb1 : Nat × PV := (4,PV.ptr 4 0)
   refine qa N Z Z (aE [Y5,(2,PV.ptr 2 0),Y3,(4,PV.ptr 3 0),(5,pI at1),(6,pN i),Ya9,(8,pI (ag L a2 2))] [Yb2,(1,.obj [pI ((1 + (ag L ap 3)) + ((i : Nat) : Int)),pK .u32 fu,pI (1 + (ag L (ad L (ad L ap 3) 2) 4)),pS 4 false aR q1,aH]),Ya6,Yb,Yb3] 5 ⟨Z,Z,Z,Z,Z,Z,Z,Z,trivial⟩ Z Z (re (aP (fO (n := 1) (j := 4) (sz := 2) Z Z Z (yh (fun (a3 : Nat) (at2 : Int) (sl : List TSlot) (kk : Int) => 0 ≤ at2 ∧ at2 + 86 * (kk + 1) ≤ at1 + 172 ∧ -1 ≤ kk ∧ (sl.length : Int) + kk ≤ 1) (fun (a3 : Nat) (at2 : Int) (sl : List TSlot) (kk : Int) => [Y5,Y8,Y3,Yb1,(5,pI at2),(6,pN i),Ya9,(8,pI kk)]) 6 (fun (a3 : Nat) (at2 : Int) (sl : List TSlot) (kk : Int) => [(0,.obj [pS 1 false ay L,pN a3]),(1,.obj [pI ((1 + (ag L ap 3)) + ((i : Nat) : Int)),pK .u32 fu,pI (1 + (ag L (ad L (ad L ap 3) 2) 4)),pS 4 false aR q1,PV.ref 2 0 none]),(2,oB true 2 gN sl),Y1,Y7,Ya2]) (fun (a3 : Nat) (at2 : Int) (sl : List TSlot) (kk : Int) => (kk + 1).toNat) (ad L a2 2) (at1) (([] : List TSlot)) (ag L a2 2) ?_ ⟨[(0,0),(1,1),(2,5),(3,2),(4,3),(5,4)],by rw [hk]; decide,⟨⟨_,rfl,rfl,rfl⟩,⟨_,rfl,rfl,rfl⟩,⟨_,rfl,rfl,rfl⟩,⟨_,rfl,rfl,rfl⟩,⟨_,rfl,rfl,rfl⟩,⟨_,rfl,rfl,rfl⟩,⟨_,rfl,rfl,rfl⟩,⟨_,rfl,rfl,rfl⟩,trivial⟩,⟨⟨_,_,rfl,rfl,rfl,rfl⟩,⟨_,_,rfl,rfl,rfl,rfl⟩,⟨_,_,rfl,rfl,rfl,rfl⟩,⟨_,_,rfl,rfl,rfl,rfl⟩,⟨_,_,rfl,rfl,rfl,rfl⟩,⟨_,_,rfl,rfl,rfl,rfl⟩,trivial⟩,by rw [hk]; decide⟩ ?_)))))
   · exact ⟨by omega,by omega,by omega,by simp; omega⟩
   ·intro a3 at2 sl kk hK
    obtain ⟨ha20,ha2,hkk,hsl⟩ := hK
    let Y0 : Nat × Pv.Obj := (1,.obj [pI ((1 + (ag L ap 3)) + ((i : Nat) : Int)),pK .u32 fu,pI (1 + (ag L (ad L (ad L ap 3) 2) 4)),pS 4 false aR q1,PV.ref 2 0 none])
    refine an (sr (xp N 2 [.o 2] [] [(49,pB (decide (0 ≤ kk)))] (re (av Z (fun c3 => ?_) (fun c3 => ?_)))))
    ·try simp only [sB] at c3
     let Ya3 : Nat × Pv.Obj := (0,.obj [pS 1 false ay L,pN (ad L a3 9)])
     refine aw (ak (an (aP (sr (qm N Z Z (qm N Z Z (qo N Z (aN 6 (pI (ag L a3 9)) [Ya3,Y0,(2,oB true 2 gN sl),Y1,Y7,Ya2] [0] (aA L false a3 9 (by omega) (by omega)) ?_))))))))
     have hb54 := b9 L a3 (n := 9) (by decide)
     refine qo N Z (gm (r := 72 + (ag L a3 9)) Z Z Z (by omega) ?_)
     refine qo N Z (bX lT Z Z (br Z aD Z Z Z (nb Z) (br Z aD Z Z Z (nb Z) (dp ?_))))
     refine qo N Z (cg lT ?_)
     refine qo N Z (aC lT Z Z Z Z Z (nb Z) ?_)
     let Ya4 : Nat × Pv.Obj := (6,.obj [pI at2,pI (72 + (ag L a3 9))])
     refine aE [Y5,Y8,Y3,Yb1,(6,pN i),Ya9,(8,pI kk),(9,PV.ptr 6 0)] [Ya4,Ya3,Y0,(2,oB true 2 gN sl),Y1,Y7,Ya2] 7 ⟨Z,Z,Z,Z,Z,Z,Z,Z,trivial⟩ Z Z (re (an (cK N (xq 6 [.o 6] [bu (at2 + (72 + (ag L a3 9)))] ?_ (hc := ⟨by unfold bu; (omega),trivial⟩)))))
     let Ya : Nat × Pv.Obj := (0,.obj [pS 1 false ay L,pN (ad L (ad L a3 9) 7)])
     refine xk [(62,PV.ptr 0 0)] [] [Ya3] [Ya] [Ya,Ya4,Y0,(2,oB true 2 gN sl),Y1,Y7,Ya2] (aN 7 (pI (ag L (ad L a3 9) 7)) _ [0] (aA L false (ad L a3 9) 7 (by omega) (by omega)) ⟨Z,Z,Z⟩) ?_
     have hb63 := b9 L (ad L a3 9) (n := 7) (by decide)
     refine xq 2 [.o 2] [bu ((at2 + (72 + (ag L a3 9))) + (ag L (ad L a3 9) 7))] ?_ (hc := ⟨by unfold bu; (omega),trivial⟩)
     let Ya7 : Nat × PV := (5,pI ((at2 + (72 + (ag L a3 9))) + (ag L (ad L a3 9) 7)))
     refine xe [Y5,Y8,Y3,Yb1,Ya7,(6,pN i),Ya9,(8,pI kk),(9,PV.ptr 6 0)] (re (bk (xp N 3 [.o 3] [] [(66,PV.ref 2 0 none),(67,PV.f (.agg [ay at2,ay (72 + (ag L a3 9))]))] (qo N Z (bM (f := gN) [(⟨at2,72 + (ag L a3 9)⟩ : TSlot)] lU Z lT ⟨Z,by decide⟩ (by decide) Z Z Z Z ?_)))))
     refine qo N Z (bZ (f := gN) (l := sl) (xs := [(⟨at2,72 + (ag L a3 9)⟩ : TSlot)]) lU Z lT ⟨Z,by decide,by decide⟩ (da lU Z (ct (f := gN) Z Z)) Z Z (by (simp; omega)) ?_)
     refine qo N Z (aX dG Z Z lU (by decide) Z ?_)
     refine qo N Z (aC lU Z Z Z Z Z (nb Z) ?_)
     refine aE [Y5,Y8,Y3,Yb1,Ya7,(6,pN i),Ya9,(8,pI kk)] [(1,.obj [pI ((1 + (ag L ap 3)) + ((i : Nat) : Int)),pK .u32 fu,pI (1 + (ag L (ad L (ad L ap 3) 2) 4)),pS 4 false aR q1,PV.ref 8 0 none]),(8,oB true 2 gN (sl ++ [(⟨at2,72 + (ag L a3 9)⟩ : TSlot)])),(7,oB true 2 gN [(⟨at2,72 + (ag L a3 9)⟩ : TSlot)]),Ya,Ya4,Y1,Y7,Ya2] 9 ⟨Z,Z,Z,Z,Z,Z,Z,Z,trivial⟩ Z Z (bG (aG (ak (bk (qm N Z Z (qo N Z (jU (r := kk - 1) Z Z Z (by omega) ?_)))))))
     refine ae N Z Z (⟨(ad L (ad L a3 9) 7),((at2 + (72 + (ag L a3 9))) + (ag L (ad L a3 9) 7)),(sl ++ [(⟨at2,72 + (ag L a3 9)⟩ : TSlot)]),(kk - 1), ?_, ?_,⟨[(0,0),(1,1),(2,8),(3,3),(4,4),(5,5)],by rw [hk]; decide,⟨⟨_,rfl,rfl,rfl⟩,⟨_,rfl,rfl,rfl⟩,⟨_,rfl,rfl,rfl⟩,⟨_,rfl,rfl,rfl⟩,⟨_,rfl,rfl,rfl⟩,⟨_,rfl,rfl,rfl⟩,⟨_,rfl,rfl,rfl⟩,⟨_,rfl,rfl,rfl⟩,trivial⟩,⟨⟨_,_,rfl,rfl,rfl,rfl⟩,⟨_,_,rfl,rfl,rfl,rfl⟩,⟨_,_,rfl,rfl,rfl,rfl⟩,⟨_,_,rfl,rfl,rfl,rfl⟩,⟨_,_,rfl,rfl,rfl,rfl⟩,⟨_,_,rfl,rfl,rfl,rfl⟩,trivial⟩,by rw [hk]; decide⟩⟩)
     ·exact ⟨by omega,by omega,by omega,by simp; omega⟩
     · omega
    try simp only [sB] at c3
    refine cG (aL (aL (bq (ak (bk (qo N Z (aX gK Z Z iX (by decide) Z ?_)))))))
    refine qo N Z (bp iX Z Z Z Z Z ?_)
    refine qo N Z (bj dG Z Z Z (nb Z) ?_)
    refine qo N Z (bM (f := cn) [(⟨(1 + (ag L ap 3)) + ((i : Nat) : Int),fu,1 + (ag L (ad L (ad L ap 3) 2) 4),q1,sl⟩ : TTenant)] iX Z dG ⟨Z,by decide⟩ (by decide) Z Z Z Z ?_)
    refine qo N Z (bZ (f := cn) (l := ts) (xs := [(⟨(1 + (ag L ap 3)) + ((i : Nat) : Int),fu,1 + (ag L (ad L (ad L ap 3) 2) 4),q1,sl⟩ : TTenant)]) iX Z dG ⟨Z,by decide,by decide⟩ (da iX Z (ct (f := cn) Z Z)) Z Z (by (simp; omega)) ?_)
    refine qo N Z (aX gK Z Z iX (by decide) Z ?_)
    refine qo N Z (aC iX Z Z Z Z Z (nb Z) ?_)
    refine aE [Y5,Y8,Y3,Yb1,(5,pI at2),(6,pN i)] [(4,.obj [pI 0,PV.ref 7 0 none]),(7,oB true 5 cn (ts ++ [(⟨(1 + (ag L ap 3)) + ((i : Nat) : Int),fu,1 + (ag L (ad L (ad L ap 3) 2) 4),q1,sl⟩ : TTenant)])),(6,oB true 5 cn [(⟨(1 + (ag L ap 3)) + ((i : Nat) : Int),fu,1 + (ag L (ad L (ad L ap 3) 2) 4),q1,sl⟩ : TTenant)]),(2,oB false 2 gN sl),(0,.obj [pS 1 false ay L,pN a3]),Y0,Y1] 8 ⟨Z,Z,Z,Z,Z,Z,trivial⟩ Z Z (bG (aG (ak (bk (qm N Z Z (qo N Z (cm (a := i) (b := 1) Z Z (by omega) (by omega) (by omega) ?_)))))))
    refine ae N Z Z (⟨(a3),(ts ++ [(⟨(1 + (ag L ap 3)) + ((i : Nat) : Int),fu,1 + (ag L (ad L (ad L ap 3) 2) 4),q1,sl⟩ : TTenant)]),(at2),(i + 1), ?_, ?_,⟨[(0,0),(1,4),(2,7),(3,3)],by rw [hk]; decide,⟨⟨_,rfl,rfl,rfl⟩,⟨_,rfl,rfl,rfl⟩,⟨_,rfl,rfl,rfl⟩,⟨_,rfl,rfl,rfl⟩,⟨_,rfl,rfl,rfl⟩,⟨_,rfl,rfl,rfl⟩,trivial⟩,⟨⟨_,_,rfl,rfl,rfl,rfl⟩,⟨_,_,rfl,rfl,rfl,rfl⟩,⟨_,_,rfl,rfl,rfl,rfl⟩,⟨_,_,rfl,rfl,rfl,rfl⟩,trivial⟩,by rw [hk]; decide⟩⟩)
    ·refine ⟨by omega,by simp; omega,fun p hp => ?_,by omega,by omega⟩
     rcases List.mem_append.1 hp with h|h
     · exact hw p h
     · have h := List.mem_singleton.1 h; subst h; exact hq1
    · omega
  try simp only [sB] at c1
  let Y6 : Nat × Pv.Obj := (0,.obj [pS 1 false ay L,pN (ad L ap 20)])
  refine cG (aL (aL (bq (ak (sr (qm N Z Z (qm N Z Z (qo N Z (aN 4 (pI (ag L ap 20)) [Y6,Y2,Y4,Y1] [0] (aA L false ap 20 (by omega) (by omega)) ?_)))))))))
  have hb79 := b9 L ap (n := 20) (by decide)
  refine qo N Z (gm (r := at1 + (ag L ap 20)) Z Z Z (by omega) ?_)
  refine qo N Z (aX gK Z Z aD (by decide) Z ?_)
  refine qo N Z (aC aD Z Z Z Z Z (nb Z) ?_)
  let Yb0 : Nat × Pv.Obj := (1,.obj [pI (at1 + (ag L ap 20)),PV.ref 2 0 none])
  refine aE [Y8,Yb5] [Yb0,Y6,Y4,Y1] 4 ⟨Z,Z,trivial⟩ Z Z (re (sr (qo N Z (bj gK Z Z Z (nb Z) ?_))))
  refine qo N Z (aC gK Z Z Z Z Z (nb Z) ?_)
  refine aE [Y8] [(3,.obj [pI (at1 + (ag L ap 20)),PV.ref 2 0 none]),Yb0,Y6,Y4] 4 ⟨Z,trivial⟩ Z Z (re (gF (n := 3) (j := 1) Z Z Z Z (w_ret ?_)))
  have hex : TabG (⟨at1 + (ag L ap 20),ts⟩ : TTable) := by
    exact ⟨⟨by simp only; omega,by simp only; omega⟩,hw⟩
  exact bB (nx1 := 1) (H1 := [Y6]) [(0,0)] (ret_cell gK (by decide) Z Z (nb Z) Z ret_nil) Z (by decide) ⟨⟨_,_,Z,Z,Z,Z⟩,trivial⟩ (by decide) Z ⟨((⟨at1 + (ag L ap 20),ts⟩ : TTable)),(ad L ap 20),hex,Z,Z,Z⟩
def cV (L : List Int) (p : TPart) (a : Nat) : TReply × Nat :=
  if p.request.fn = 1 ∨ p.request.fn = 2 then (⟨p.request.fn,0,0,0,0,(tRow ip 2 L a p.request.count.toNat).1,[],0,0,[]⟩,(tRow ip 2 L a p.request.count.toNat).2)
  else if p.request.fn = 3 ∨ p.request.fn = 4 then (⟨p.request.fn,0,0,0,0,[],(tRow bV 65536 L a p.request.count.toNat).1,0,0,[]⟩,(tRow bV 65536 L a p.request.count.toNat).2)
  else if p.request.fn = 5 ∨ p.request.fn = 6 then (⟨p.request.fn,0,p.request.at_,0,0,p.request.bits,p.request.vals,0,0,[]⟩,a)
  else (⟨p.request.fn,0,p.request.at_,p.request.count,0,[],[],0,0,[]⟩,a)
def eD (L : List Int) (r : TReply) (a : Nat) : Option TReply × Nat :=
  if ag L a 14 = 0 then (some (aB r.fn (1 + ag L (ad L a 14) 11)),ad L (ad L a 14) 11)
  else if ag L a 14 = 1 then (some ⟨1 + ag L (ad L a 14) 6,r.code,r.at_,r.count,r.sub,r.bits,r.vals,r.and_,r.or_,r.data⟩,ad L (ad L a 14) 6)
  else if ag L a 14 = 2 then (some ⟨r.fn,r.code,r.at_,r.count,r.sub,r.bits,r.vals ++ [7],r.and_,r.or_,r.data⟩,ad L a 14)
  else if ag L a 14 = 3 then (some ⟨r.fn,r.code,r.at_ + 70000,r.count,r.sub,r.bits,r.vals,r.and_,r.or_,r.data⟩,ad L a 14)
  else if ag L a 14 = 4 then (none,ad L a 14) else (some r,ad L a 14)
def ansGo (L : List Int) (all : Bool) : List TPart → Nat → List TReply
  | [],_ => []
  | p :: t,a => if all = true then (cV L p a).1 :: ansGo L all t (cV L p a).2
    else match (eD L (cV L p a).1 (cV L p a).2).1 with
      | none => []
      | some r => r :: ansGo L all t (eD L (cV L p a).1 (cV L p a).2).2
section
variable {L : List Int}{all : Bool}{ps : List TPart}{i a b : Nat}{p : TPart}{r r2 : TReply}
theorem nz {α : Type}{l : List α}{i : Nat}{x : α} (h : l[i]? = some x) : l.drop i = x :: l.drop (i + 1) := by
  obtain ⟨h1,rfl⟩ := List.getElem?_eq_some_iff.1 h
  exact List.drop_eq_getElem_cons h1
theorem Ac (h : ps[i]? = some p) (hb : cV L p a = (r,b)) : ansGo L true (ps.drop i) a = r :: ansGo L true (ps.drop (i + 1)) b := by
  rw [nz h,ansGo,if_pos rfl,hb]
theorem xO (h : ps[i]? = some p) {b2 : Nat} (hb : cV L p a = (r,b)) (ht : eD L r b = (some r2,b2)) : ansGo L false (ps.drop i) a = r2 :: ansGo L false (ps.drop (i + 1)) b2 := by
  rw [nz h,ansGo,if_neg (by decide),hb]
  simp only
  rw [ht]
theorem xP (h : ps[i]? = some p) {b2 : Nat} (hb : cV L p a = (r,b)) (ht : eD L r b = (none,b2)) : ansGo L false (ps.drop i) a = [] := by
  rw [nz h,ansGo,if_neg (by decide),hb]
  simp only
  rw [ht]
theorem Ab (h : ps.length ≤ i) : ansGo L all (ps.drop i) a = [] := by rw [List.drop_eq_nil_of_le h]; rfl
theorem Ar (h : ag L a 14 = 0) : eD L r a = (some (aB r.fn (1 + ag L (ad L a 14) 11)),ad L (ad L a 14) 11) := by unfold eD; rw [if_pos h]
theorem Aq (h : ag L a 14 = 1) : eD L r a = (some ⟨1 + ag L (ad L a 14) 6,r.code,r.at_,r.count,r.sub,r.bits,r.vals,r.and_,r.or_,r.data⟩,ad L (ad L a 14) 6) := by unfold eD; rw [if_neg (by omega),if_pos h]
theorem Ap (h : ag L a 14 = 2) : eD L r a = (some ⟨r.fn,r.code,r.at_,r.count,r.sub,r.bits,r.vals ++ [7],r.and_,r.or_,r.data⟩,ad L a 14) := by unfold eD; rw [if_neg (by omega),if_neg (by omega),if_pos h]
theorem Ao (h : ag L a 14 = 3) : eD L r a = (some ⟨r.fn,r.code,r.at_ + 70000,r.count,r.sub,r.bits,r.vals,r.and_,r.or_,r.data⟩,ad L a 14) := by unfold eD; rw [if_neg (by omega),if_neg (by omega),if_neg (by omega),if_pos h]
theorem An (h : ag L a 14 = 4) : eD L r a = (none,ad L a 14) := by unfold eD; rw [if_neg (by omega),if_neg (by omega),if_neg (by omega),if_neg (by omega),if_pos h]
theorem Am (h : ¬ (ag L a 14 = 0 ∨ ag L a 14 = 1 ∨ ag L a 14 = 2 ∨ ag L a 14 = 3 ∨ ag L a 14 = 4)) : eD L r a = (some r,ad L a 14) := by unfold eD; rw [if_neg (by omega),if_neg (by omega),if_neg (by omega),if_neg (by omega),if_neg (by omega)]
theorem mv (h : p.request.fn = 1 ∨ p.request.fn = 2) : cV L p a = (⟨p.request.fn,0,0,0,0,(tRow ip 2 L a p.request.count.toNat).1,[],0,0,[]⟩,(tRow ip 2 L a p.request.count.toNat).2) := by unfold cV; rw [if_pos h]
theorem mu (h : p.request.fn = 3 ∨ p.request.fn = 4) : cV L p a = (⟨p.request.fn,0,0,0,0,[],(tRow bV 65536 L a p.request.count.toNat).1,0,0,[]⟩,(tRow bV 65536 L a p.request.count.toNat).2) := by unfold cV; rw [if_neg (by omega),if_pos h]
theorem so (h : p.request.fn = 5 ∨ p.request.fn = 6) : cV L p a = (⟨p.request.fn,0,p.request.at_,0,0,p.request.bits,p.request.vals,0,0,[]⟩,a) := by unfold cV; rw [if_neg (by omega),if_neg (by omega),if_pos h]
theorem pe (h : ¬ (p.request.fn = 1 ∨ p.request.fn = 2 ∨ p.request.fn = 3 ∨ p.request.fn = 4 ∨ p.request.fn = 5 ∨ p.request.fn = 6)) : cV L p a = (⟨p.request.fn,0,p.request.at_,p.request.count,0,[],[],0,0,[]⟩,a) := by unfold cV; rw [if_neg (by omega),if_neg (by omega),if_neg (by omega)]
end
def SmallA (r : TReply) : Prop := r.bits.length ≤ 30 ∧ r.vals.length ≤ 30 ∧ r.data.length ≤ 30
def SmallP (p : TPart) : Prop := p.request.count ≤ 25 ∧ p.request.bits.length ≤ 25 ∧ p.request.vals.length ≤ 25
theorem ot {L : List Int}{p : TPart} (h : SmallP p) (a : Nat) : (cV L p a).1.bits.length ≤ 25 ∧ (cV L p a).1.vals.length ≤ 25 ∧ (cV L p a).1.data.length ≤ 25 := by
  obtain ⟨h1,h2,h3⟩ := h
  have e1 := eE ip 2 L a p.request.count.toNat
  have e2 := eE bV 65536 L a p.request.count.toNat
  unfold cV
  repeat' split
  all_goals (simp only [List.length_nil]; omega)
theorem tX {L : List Int}{r : TReply}{a : Nat} (h : r.bits.length ≤ 25 ∧ r.vals.length ≤ 25 ∧ r.data.length ≤ 25) {r2 : TReply} (ht : (eD L r a).1 = some r2) : SmallA r2 := by
  obtain ⟨h1,h2,h3⟩ := h
  unfold eD at ht
  repeat' split at ht
  all_goals first|(cases ht; done)|(simp only [Option.some.injEq] at ht; subst ht; refine ⟨?_, ?_, ?_⟩ <;> (first|omega|(simp [aB]; done)|(simp only [aB]; omega)|(simp; omega)))
theorem kg {L : List Int}{all : Bool} : ∀ {ps : List TPart}{a : Nat},(∀ p ∈ ps,SmallP p) → (ansGo L all ps a).length ≤ ps.length ∧ ∀ r ∈ ansGo L all ps a,SmallA r
  | [],a,_ => ⟨Nat.le_refl _,fun r hr => by cases hr⟩
  | p :: t,a,h => by
    have hp := ot (L := L) (h p List.mem_cons_self) a
    rw [ansGo]
    split
    · obtain ⟨h1,h2⟩ := kg (L := L) (all := all) (a := (cV L p a).2) fun x hx => h x (List.mem_cons_of_mem _ hx)
      refine ⟨by simp only [List.length_cons]; omega,fun r hr => ?_⟩
      rcases List.mem_cons.1 hr with rfl|hr
      · unfold SmallA; omega
      · exact h2 r hr
    · split
      · exact ⟨by simp,fun r hr => by cases hr⟩
      · rename_i r2 hr2
        obtain ⟨h1,h2⟩ := kg (L := L) (all := all) (a := (eD L (cV L p a).1 (cV L p a).2).2) fun x hx => h x (List.mem_cons_of_mem _ hx)
        refine ⟨by simp only [List.length_cons]; omega,fun r hr => ?_⟩
        rcases List.mem_cons.1 hr with rfl|hr
        · exact tX hp hr2
        · exact h2 r hr
theorem qf : ∀ {ps : List TPart}{rs : List TReply},(∀ r ∈ rs,r.bits.length ≤ 5000 ∧ r.vals.length ≤ 5000 ∧ r.data.length ≤ 5000) → (bitsJ ps rs).length ≤ 5000 * ps.length ∧ (valsJ ps rs).length ≤ 5000 * ps.length
  | p :: ps,r :: rs,h => by
    have h1 := h r List.mem_cons_self
    obtain ⟨h2,h3⟩ := qf (ps := ps) (rs := rs) fun x hx => h x (List.mem_cons_of_mem _ hx)
    simp only [bitsJ,valsJ,List.length_append,List.length_cons]
    constructor <;> split <;> (try simp only [List.length_nil]) <;> omega
  | [],_,_ => ⟨Nat.zero_le _,Nat.zero_le _⟩
  | _ :: _,[],_ => ⟨Nat.zero_le _,Nat.zero_le _⟩
theorem tR {q : TRequest}{B : List Bool}{V : List UInt16} (hb : q.bits.length ≤ 140737488351232) (hv : q.vals.length ≤ 70368744175616) (hB : B.length ≤ 30000) (hV : V.length ≤ 30000) :
    (ba q B V).bits.length ≤ 140737488351232 ∧ (ba q B V).vals.length ≤ 70368744175616 ∧ (ba q B V).data.length ≤ 5000 := by
  unfold ba
  repeat' split
  all_goals (refine ⟨?_, ?_, ?_⟩ <;> (first|(simp only [aB,List.length_nil]; omega)|(simp only [List.length_nil]; omega)|(simp [aB]; done)|(simp only; omega)))
theorem vA {F : Int}{l : List TWindow}{q : TRequest}{rs : List TReply} (hb : q.bits.length ≤ 140737488351232) (hv : q.vals.length ≤ 70368744175616) (hr : ∀ r ∈ rs,r.bits.length ≤ 5000 ∧ r.vals.length ≤ 5000 ∧ r.data.length ≤ 5000) :
    (dt F l q rs).bits.length ≤ 140737488351232 ∧ (dt F l q rs).vals.length ≤ 70368744175616 ∧ (dt F l q rs).data.length ≤ 5000 := by
  have h6 := (j0 F l q).1
  obtain ⟨h1,h2⟩ := qf (ps := (splitP F l q).1) (rs := rs.take (splitP F l q).1.length) fun r hm => hr r (List.mem_of_mem_take hm)
  have hw := tR (B := bitsJ (splitP F l q).1 (rs.take (splitP F l q).1.length)) (V := valsJ (splitP F l q).1 (rs.take (splitP F l q).1.length)) hb hv (by omega) (by omega)
  have hno : ∀ n k : Int,(aB n k).bits.length ≤ 140737488351232 ∧ (aB n k).vals.length ≤ 70368744175616 ∧ (aB n k).data.length ≤ 5000 := fun n k => by simp [aB]
  unfold dt
  split
  · exact hno _ _
  · split
    · exact hno _ _
    · split
      · exact hno _ _
      · split
        · exact hno _ _
        · exact hw
section
variable {L : List Int}{all : Bool}{ps : List TPart}{i a b b2 : Nat}{p : TPart}{r r2 : TReply}{os res : List TReply}
theorem BA (ha : all = true) (hg : os ++ ansGo L all (ps.drop i) a = res) (h : ps[i]? = some p) (hb : cV L p a = (r,b)) : os ++ [r] ++ ansGo L all (ps.drop (i + 1)) b = res := by
  subst ha; rw [← hg,Ac h hb,List.append_assoc]; rfl
theorem kF (ha : all = false) (hg : os ++ ansGo L all (ps.drop i) a = res) (h : ps[i]? = some p) (hb : cV L p a = (r,b)) (ht : eD L r b = (some r2,b2)) : os ++ [r2] ++ ansGo L all (ps.drop (i + 1)) b2 = res := by
  subst ha; rw [← hg,xO h hb ht,List.append_assoc]; rfl
theorem zM (ha : all = false) (hg : os ++ ansGo L all (ps.drop i) a = res) (h : ps[i]? = some p) (hb : cV L p a = (r,b)) (ht : eD L r b = (none,b2)) : os = res := by
  subst ha; rw [← hg,xP h hb ht,List.append_nil]
theorem Aa {L : List Int}{p : TPart}{a : Nat} : (cV L p a).1.at_ = 0 ∨ (cV L p a).1.at_ = p.request.at_ := by
  unfold cV
  repeat' split
  all_goals first|exact .inl rfl|exact .inr rfl
end
theorem yS {P : Program}{tab : bR}{nx : Nat}{env : aI}{H : ah}{K : PV → Nat → ah → Prop}{t u : Nat}{x y : Operand}{ai : Int}{z : Nat} (n : Nat) {bi : Int} (hn : n < 63) (hz : z = (ai % 2 ^ n).toNat) (h1 : ev env x = some (.f (.v (.int .i64 ai)))) (h2 : ev env y = some (.f (.v (.int .i64 bi)))) (hb : bi = 2 ^ n - 1)
    (h : K (pN z) nx H) : stepOp P tab env nx H K (.binOp .and t x y u) := jC n hn h1 h2 hb (by rw [← hz]; exact h)
theorem ku (t : List Int) (cl_t : Bool) (i : Nat) (ht : t.length ≤ 70000000000000) (hi : i ≤ 1000) :
    T Tryz.prog 4 [pS 1 cl_t ay t,pN i] 0 [] (fun ra rb rc => ∃ p : TTenant,(WinsOk p.windows) ∧ (Ret (PV.f (cn p)) 0 []) ra rb rc) := by
 refine bn aF (n := 19) (rs := [.cell 4 27]) Tryz.func4 Z Z Z Z (nb Z) ?_
 intro c N hk
 refine sr (qo N Z (cg dG ?_))
 let Y0 : Nat × Pv.Obj := (0,.obj [pI 0,pK .u32 0,pI 0,aH,aH])
 refine aE [(0,pS 1 cl_t ay t),(1,pN i),(4,PV.ptr 0 0)] [Y0] 1 ⟨Z,Z,Z,trivial⟩ Z Z (re (sr (qm N Z Z (qo N Z (bX rj Z Z (br Z ew Z Z Z (nb Z) (dp ?_)))))))
 refine qo N Z (cu Z Z ?_)
 refine qo N Z (nc (p := fun (X1 : TTable) (b1 : Nat) => TabG X1) (r2 := fun X1 b1 => PV.f (vL X1)) (nx1 := 2) (H2 := [(1,.obj [pS 1 cl_t ay t,pI 0]),Y0]) (H3 := fun X1 b1 => [(1,.obj [pS 1 false ay t,pN b1]),Y0]) [1] [.obj [pS 1 cl_t ay t,pI 0]] Z Z Z (jf (by decide) ⟨Z,trivial⟩) Z Z Z Z Z Z (jK t cl_t 0 (by omega)) (fun X1 b1 => Z) (fun X1 b1 => kG Z) (fun X1 b1 => Z) (fun X1 b1 => Z) Z (fun X1 b1 => Z) (fun X1 b1 hX1 => ?_))
 refine qo N Z (cg gK ?_)
 refine qo N Z (aC gK Z Z Z Z Z (nb Z) ?_)
 let Y : ah := [(2,.obj (vU X1)),(1,.obj [pS 1 false ay t,pN b1]),Y0]
 refine aE [(1,pN i),(4,PV.ptr 0 0),(5,PV.ptr 2 0)] Y 3 ⟨Z,Z,Z,trivial⟩ Z Z (re (an ?_))
 have hxl := hX1.len
 refine cK N (xq 6 [.o 5,.c (pN X1.tenants.length)] [cC cn X1.tenants] ?_ (hc := ⟨lenC_ok _ _,trivial⟩))
 refine xk [(12,pN i),(15,pN X1.tenants.length)] [] [] [] Y (l4 (a := i) (b := X1.tenants.length) Z Z (by omega) (by omega) (by omega) ⟨Z,Z,Z⟩) ?_
 obtain ⟨e1,he1⟩ := bl X1.tenants (i := i % X1.tenants.length) (by have := Nat.mod_lt i (show 0 < X1.tenants.length by omega); omega)
 refine xk [(11,pS 5 false cn X1.tenants),(16,pN (i % X1.tenants.length))] [] [] [] Y (cA (q := i % X1.tenants.length) (b := e1) (f := cn) iX Z dG Z Z (by omega) Z he1 ⟨Z,Z,Z⟩) (xd 2 [.o 2] [] 3 [(0,.obj (fc e1)),(2,.obj (vU X1)),(1,.obj [pS 1 false ay t,pN b1])] (xe [(4,PV.ptr 0 0)] (re (w_ret ?_))))
 have hex : WinsOk (⟨e1.unit,e1.functions,e1.queue,e1.windows,e1.slots⟩ : TTenant).windows := by
   exact hX1.wins _ (List.mem_of_getElem? he1)
 exact pV (ret_cell dG (by decide) Z Z (nb Z) Z ret_nil) Z Z ⟨((⟨e1.unit,e1.functions,e1.queue,e1.windows,e1.slots⟩ : TTenant)),hex,Z,Z,Z⟩
theorem kl (t : TTenant) (q : TRequest) (u : List Int) (cl_u : Bool) (all : Bool) (ht : t.windows.length ≤ 1000) (hb : q.bits.length ≤ 140737488351232) (hv : q.vals.length ≤ 70368744175616) (hu : u.length ≤ 70000000000000) (hps : ∀ p ∈ (splitP t.functions t.windows q).1,SmallP p) :
    T Tryz.prog 7 [PV.f (cn t),PV.f (bx q),pS 1 cl_u ay u,pB all] 0 [] (Ret (PV.ref 0 0 none) 1 [(0,oB true 10 aK (ansGo u all (splitP t.functions t.windows q).1 0))]) := by
 refine bn aF (n := 140) (rs := [.tmp 8]) Tryz.func7 Z Z Z Z (nb Z) ?_
 intro c N hk
 refine sr (qo N Z (cu Z Z ?_))
 refine qo N Z (cu Z Z ?_)
 refine qa N Z Z (aE [(2,pS 1 cl_u ay u),(3,pB all),(4,PV.ptr 0 0),(5,PV.ptr 1 0)] [(1,.obj (cd q)),(0,.obj (fc t))] 2 ⟨Z,Z,Z,Z,trivial⟩ Z Z (re (sr (qm N Z Z (qo N Z (bX rj Z Z (br Z ew Z Z Z (nb Z) (dp ?_))))))))
 refine qo N Z (cu Z Z ?_)
 refine qa N Z Z (aE [(3,pB all),(4,PV.ptr 0 0),(5,PV.ptr 1 0),(9,PV.ptr 2 0)] [(2,.obj [pS 1 cl_u ay u,pI 0]),(1,.obj (cd q)),(0,.obj (fc t))] 3 ⟨Z,Z,Z,Z,trivial⟩ Z Z (re (sr (xp N 2 [.o 2] [] [(22,PV.f (cn t)),(23,PV.f (bx q))] ?_))))
 obtain ⟨S1,hS1⟩ : ∃ z : List TPart × Int,z = splitP t.functions t.windows q := ⟨_,rfl⟩
 refine qo N Z (aO Z Z Z (kV t q S1 hS1 (by omega) (by omega) (by omega)) Z ?_)
 refine xp N 5 [.o 5] [] [(10,pS 10 false bJ S1.1)] (re (an ?_))
 have hs6 := (j0 t.functions t.windows q).1
 rw [← hS1] at hs6
 refine bk (ae N Z Z (an (sr (qm N Z Z (qo N Z (ca (l := S1.1) gJ Z (cf (f := bJ) Z) ?_))))))
 let Y0 : Nat × PV := (27,pS 10 false bJ S1.1)
 let Ya : Nat × PV := (28,pN S1.1.length)
 let Ya9 : Nat × PV := (9,PV.ptr 0 0)
 let Yc : Nat × PV := (12,PV.ref 1 0 none)
 refine qm N Z Z (re (aP (dD (s := 12) (sz := 10) Z (bH (n := 2) (ds := [pS 1 false ay u,pI 0]) Z ⟨dB,le_refl _,trivial⟩ (iP (fun (ap : Nat) (os : List TReply) (i : Nat) => i ≤ S1.1.length ∧ os ++ ansGo u all (S1.1.drop i) ap = ansGo u all S1.1 0 ∧ os.length ≤ i) (fun (ap : Nat) (os : List TReply) (i : Nat) => [(3,pB all),Ya9,Yc,Y0,Ya,(29,pN i)]) 2 (fun (ap : Nat) (os : List TReply) (i : Nat) => [(0,.obj [pS 1 false ay u,pN ap]),(1,oB true 10 aK os)]) (fun (ap : Nat) (os : List TReply) (i : Nat) => S1.1.length - i) (0) (([] : List TReply)) (0) ?_ ⟨[(0,2),(1,3)],by rw [hk]; decide,⟨⟨_,rfl,rfl,rfl⟩,⟨_,rfl,rfl,rfl⟩,⟨_,rfl,rfl,rfl⟩,⟨_,rfl,rfl,rfl⟩,⟨_,rfl,rfl,rfl⟩,⟨_,rfl,rfl,rfl⟩,trivial⟩,⟨⟨_,_,rfl,rfl,rfl,rfl⟩,⟨_,_,rfl,rfl,rfl,rfl⟩,trivial⟩,by rw [hk]; decide⟩ ?_)))))
 · exact ⟨by omega,by simp,by simp⟩
 ·intro ap os i hI
  obtain ⟨hi,hgo,hol⟩ := hI
  refine sr (qo N Z (cZ Z Z ?_))
  let Ya5 : Nat × Pv.Obj := (0,.obj [pS 1 false ay u,pN ap])
  let Yb2 : ah := [(0,oB true 10 aK (ansGo u all (splitP t.functions t.windows q).1 0))]
  refine re (an (av Z (fun c1 => ?_) (fun c1 => ?_)))
  ·try simp only [sB] at c1
   refine aw (ak (an (aP (sr ?_))))
   obtain ⟨e1,he1⟩ := bl S1.1 (i := i) (by omega)
   refine qo N Z (cA (q := i) (b := e1) (f := bJ) gJ Z gI Z Z (by omega) Z he1 ?_)
   let Yb5 : Nat × Pv.Obj := (1,oB true 10 aK os)
   let Yb8 : Nat × Pv.Obj := (2,.obj (uC e1))
   refine xm N 3 [.o 3] [] [(14,PV.ptr 2 0)] 3 [Yb8,Ya5,Yb5] (re (an ?_))
   have hpf := th (F := t.functions) (l := t.windows) (q := q) (x := e1) (by rw [← hS1]; exact List.mem_of_getElem? he1)
   obtain ⟨hp1,hp2,hp3,hp4,hp5,_⟩ := hpf
   obtain ⟨hs1,hs2,hs3⟩ := hps e1 (by rw [← hS1]; exact List.mem_of_getElem? he1)
   obtain ⟨⟨rb,ab⟩,hrb⟩ : ∃ z,z = cV u e1 ap := ⟨_,rfl⟩
   have hbs := ot (L := u) (hps e1 (by rw [← hS1]; exact List.mem_of_getElem? he1)) ap
   have hba := Aa (L := u) (p := e1) (a := ap)
   rw [← hrb] at hbs hba
   simp only at hbs hba
   refine bk (xp N 3 [.o 3] [] [(35,pI e1.request.fn)] (qo N Z (bX aM Z Z (br Z aD Z Z Z (nb Z) (dp ?_)))))
   refine qo N Z (cg aM ?_)
   refine qo N Z (aC aM Z Z Z Z Z (nb Z) ?_)
   let Yb4 : Nat × PV := (15,PV.ptr 1 0)
   let Y4 : aI := [(3,pB all),Ya9,(12,PV.ref 2 0 none),Yb4,Y0,Ya,(29,pN i)]
   let Ya2 : Nat × Pv.Obj := (2,oB true 10 aK os)
   let Ya7 : Nat × Pv.Obj := (1,.obj (bm rb))
   refine aE [(3,pB all),Ya9,Yc,(14,PV.ptr 2 0),(15,PV.ptr 3 0),Y0,Ya,(29,pN i)] [(3,.obj [pI e1.request.fn,pI 0,pI 0,pI 0,pI 0,aH,aH,au 0,au 0,aH]),Yb8,Ya5,Yb5] 4 ⟨Z,Z,Z,Z,Z,Z,Z,Z,trivial⟩ Z Z (re (qF (fun (ac : Nat) => ac = ab) (fun (ac : Nat) => Y4) 3 (fun (ac : Nat) => [(0,.obj [pS 1 false ay u,pN ac]),Ya7,Ya2]) ?_ ?_))
   ·let Y8 : Nat × Pv.Obj := (3,oB true 10 aK os)
    let Ya1 : Nat × Pv.Obj := (4,.obj (uC e1))
    let Yb6 : Nat × PV := (12,PV.ref 3 0 none)
    let Yc0 : Nat × PV := (14,PV.ptr 4 0)
    refine sr (xp N 2 [.o 2] [] [(38,pI e1.request.fn)] (re (aP (xo N 47 [[.o 2],[.o 2]] [] ((decide (e1.request.fn = 1)) || (decide (e1.request.fn = 2))) (av Z (fun c3 => ?_) (fun c3 => ?_))))))
    ·try simp only [sB,Bool.or_eq_true,Bool.or_eq_false_iff] at c3
     let Y5 : Nat × Pv.Obj := (1,.obj [pI e1.request.fn,pI 0,pI 0,pI 0,pI 0,PV.ref 2 0 none,aH,au 0,au 0,aH])
     refine sr (ae N Z Z (aP (fO (n := 3) (j := 5) (sz := 1) Z Z Z (iP (fun (a2 : Nat) (bo : List Bool) (j : Nat) => (j : Int) ≤ e1.request.count ∧ bo = (tRow ip 2 u ap j).1 ∧ a2 = (tRow ip 2 u ap j).2) (fun (a2 : Nat) (bo : List Bool) (j : Nat) => [(3,pB all),Ya9,Yb6,Yc0,Yb4,(16,pN j),Y0,Ya,(29,pN i)]) 5 (fun (a2 : Nat) (bo : List Bool) (j : Nat) => [(0,.obj [pS 1 false ay u,pN a2]),Y5,(2,oB true 1 ar bo),Y8,Ya1]) (fun (a2 : Nat) (bo : List Bool) (j : Nat) => e1.request.count.toNat - j) (ap) (([] : List Bool)) (0) ?_ ⟨[(0,0),(1,3),(2,4),(3,1),(4,2)],by rw [hk]; decide,⟨⟨_,rfl,rfl,rfl⟩,⟨_,rfl,rfl,rfl⟩,⟨_,rfl,rfl,rfl⟩,⟨_,rfl,rfl,rfl⟩,⟨_,rfl,rfl,rfl⟩,⟨_,rfl,rfl,rfl⟩,⟨_,rfl,rfl,rfl⟩,⟨_,rfl,rfl,rfl⟩,⟨_,rfl,rfl,rfl⟩,trivial⟩,⟨⟨_,_,rfl,rfl,rfl,rfl⟩,⟨_,_,rfl,rfl,rfl,rfl⟩,⟨_,_,rfl,rfl,rfl,rfl⟩,⟨_,_,rfl,rfl,rfl,rfl⟩,⟨_,_,rfl,rfl,rfl,rfl⟩,trivial⟩,by rw [hk]; decide⟩ ?_))))
     · exact ⟨by omega,rfl,rfl⟩
     ·intro a2 bo j hJ
      obtain ⟨hj,hbo,ha2⟩ := hJ
      have hbol : bo.length = j := by rw [hbo,eE]
      refine an (sr (xp N 5 [.o 5] [] [(54,pB (decide (((j : Nat) : Int) < e1.request.count)))] (re (av Z (fun c4 => ?_) (fun c4 => ?_)))))
      ·try simp only [sB] at c4
       refine aw (ak (an (aP (cK N (xq 3 [.o 3] [] ?_)))))
       let Y7 : Nat × Pv.Obj := (5,oB true 1 ar [decide (ag u a2 2 = 1)])
       let Ya3 : Nat × Pv.Obj := (0,.obj [pS 1 false ay u,pN (ad u a2 2)])
       let Yb0 : Nat × Pv.Obj := (6,oB true 1 ar (bo ++ [decide (ag u a2 2 = 1)]))
       refine xk [(59,PV.ptr 0 0)] [] [(0,.obj [pS 1 false ay u,pN a2])] [Ya3] [Ya3,Y5,(2,oB true 1 ar bo),Y8,Ya1] (aN 5 (pI (ag u a2 2)) _ [0] (aA u false a2 2 (by omega) (by omega)) ⟨Z,Z,Z⟩) (xq 1 [.o 1] [] (xk [(61,pB (decide (ag u a2 2 = 1)))] [] [] [Y7] [Y7,Ya3,Y5,(2,oB true 1 ar bo),Y8,Ya1] (bM (f := ar) [decide (ag u a2 2 = 1)] bT Z dE ⟨Z,by decide⟩ (by decide) Z Z Z Z ⟨Z,Z,Z⟩) (xk [(58,PV.ref 2 0 none),(62,PV.ref 5 0 none)] [Y7] [(2,oB true 1 ar bo)] [Yb0,Y7] [Yb0,Y7,Ya3,Y5,Y8,Ya1] (bZ (f := ar) (l := bo) (xs := [decide (ag u a2 2 = 1)]) bT Z dE ⟨Z,by decide,by decide⟩ (da bT Z (ct (f := ar) Z Z)) Z Z (by (simp; omega)) ⟨Z,Z,Z⟩) ?_ (hs := ⟨Z,trivial⟩))))
       refine xd 2 [.o 2] [] 7 [(1,.obj [pI e1.request.fn,pI 0,pI 0,pI 0,pI 0,PV.ref 6 0 none,aH,au 0,au 0,aH]),Yb0,Y7,Ya3,Y8,Ya1] (xe [(3,pB all),Ya9,Yb6,Yc0,Yb4,(16,pN j),Y0,Ya,(29,pN i)] (bG (aG (ak (bk ?_)))))
       refine qm N Z Z (qo N Z (cm (a := j) (b := 1) Z Z (by omega) (by omega) (by omega) ?_))
       refine ae N Z Z (⟨(ad u a2 2),(bo ++ [decide (ag u a2 2 = 1)]),(j + 1), ?_, ?_,⟨[(0,0),(1,1),(2,6),(3,3),(4,4)],by rw [hk]; decide,⟨⟨_,rfl,rfl,rfl⟩,⟨_,rfl,rfl,rfl⟩,⟨_,rfl,rfl,rfl⟩,⟨_,rfl,rfl,rfl⟩,⟨_,rfl,rfl,rfl⟩,⟨_,rfl,rfl,rfl⟩,⟨_,rfl,rfl,rfl⟩,⟨_,rfl,rfl,rfl⟩,⟨_,rfl,rfl,rfl⟩,trivial⟩,⟨⟨_,_,rfl,rfl,rfl,rfl⟩,⟨_,_,rfl,rfl,rfl,rfl⟩,⟨_,_,rfl,rfl,rfl,rfl⟩,⟨_,_,rfl,rfl,rfl,rfl⟩,⟨_,_,rfl,rfl,rfl,rfl⟩,trivial⟩,by rw [hk]; decide⟩⟩)
       ·exact ⟨by omega,uU ip 2 u _ j hbo ha2,uT ip 2 u _ j ha2⟩
       · omega
      try simp only [sB] at c4
      refine gF (n := 1) (j := 5) Z Z Z Z ?_
      have hz1 : bo = rb.bits := by ((rw [(Prod.mk.inj (hrb.trans (mv (by omega)))).1]; rw [hbo,show e1.request.count.toNat = j by omega]))
      refine bH (n := 1) (ds := [pI e1.request.fn,pI 0,pI 0,pI 0,pI 0,pS 1 false ar rb.bits,aH,au 0,au 0,aH]) Z ⟨le_refl _,le_refl _,le_refl _,le_refl _,le_refl _,le_of_eq (congrArg (fun z => pS 1 false ar z) hz1),le_refl _,le_refl _,le_refl _,le_refl _,trivial⟩ ?_
      have hz2 : e1.request.fn = rb.fn ∧ 0 = rb.code ∧ 0 = rb.at_ ∧ 0 = rb.count ∧ 0 = rb.sub ∧ ([] : List UInt16) = rb.vals ∧ 0 = rb.and_ ∧ 0 = rb.or_ ∧ ([] : List UInt8) = rb.data := by and_intros <;> ((rw [(Prod.mk.inj (hrb.trans (mv (by omega)))).1]; done))
      refine bH (n := 1) (ds := bm rb) Z ⟨le_of_eq (congrArg pI hz2.1),le_of_eq (congrArg pI hz2.2.1),le_of_eq (congrArg pI hz2.2.2.1),le_of_eq (congrArg pI hz2.2.2.2.1),le_of_eq (congrArg pI hz2.2.2.2.2.1),le_refl _,be (ax 1 false) (le_of_eq (congrArg (fun z => pS 1 false aj z) hz2.2.2.2.2.2.1)),le_of_eq (congrArg au hz2.2.2.2.2.2.2.1),le_of_eq (congrArg au hz2.2.2.2.2.2.2.2.1),be (ax 1 false) (le_of_eq (congrArg (fun z => pS 1 false az z) hz2.2.2.2.2.2.2.2.2)),trivial⟩ (cG (aL (aL (bq (aG (ak (⟨(a2), ?_,⟨[(0,0),(1,1),(2,3)],by rw [hk]; decide,⟨⟨_,rfl,rfl,rfl⟩,⟨_,rfl,rfl,rfl⟩,⟨_,rfl,rfl,rfl⟩,⟨_,rfl,rfl,rfl⟩,⟨_,rfl,rfl,rfl⟩,⟨_,rfl,rfl,rfl⟩,⟨_,rfl,rfl,rfl⟩,trivial⟩,⟨⟨_,_,rfl,rfl,rfl,rfl⟩,⟨_,_,rfl,rfl,rfl,rfl⟩,⟨_,_,rfl,rfl,rfl,rfl⟩,trivial⟩,by rw [hk]; decide⟩⟩)))))))
      (rw [(Prod.mk.inj (hrb.trans (mv (by omega)))).2]; rw [ha2,show e1.request.count.toNat = j by omega])
    try simp only [sB,Bool.or_eq_true,Bool.or_eq_false_iff] at c3
    refine xo N 65 [[.o 2],[.o 2]] [] ((decide (e1.request.fn = 3)) || (decide (e1.request.fn = 4))) (av Z (fun c6 => ?_) (fun c6 => ?_))
    ·try simp only [sB,Bool.or_eq_true,Bool.or_eq_false_iff] at c6
     let Y2 : Nat × Pv.Obj := (1,.obj [pI e1.request.fn,pI 0,pI 0,pI 0,pI 0,aH,PV.ref 2 0 none,au 0,au 0,aH])
     refine sr (ae N Z Z (aP (fO (n := 3) (j := 6) (sz := 1) Z Z Z (iP (fun (a2 : Nat) (bo : List UInt16) (j : Nat) => (j : Int) ≤ e1.request.count ∧ bo = (tRow bV 65536 u ap j).1 ∧ a2 = (tRow bV 65536 u ap j).2) (fun (a2 : Nat) (bo : List UInt16) (j : Nat) => [(3,pB all),Ya9,Yb6,Yc0,Yb4,(17,pN j),Y0,Ya,(29,pN i)]) 5 (fun (a2 : Nat) (bo : List UInt16) (j : Nat) => [(0,.obj [pS 1 false ay u,pN a2]),Y2,(2,oB true 1 aj bo),Y8,Ya1]) (fun (a2 : Nat) (bo : List UInt16) (j : Nat) => e1.request.count.toNat - j) (ap) (([] : List UInt16)) (0) ?_ ⟨[(0,0),(1,3),(2,4),(3,1),(4,2)],by rw [hk]; decide,⟨⟨_,rfl,rfl,rfl⟩,⟨_,rfl,rfl,rfl⟩,⟨_,rfl,rfl,rfl⟩,⟨_,rfl,rfl,rfl⟩,⟨_,rfl,rfl,rfl⟩,⟨_,rfl,rfl,rfl⟩,⟨_,rfl,rfl,rfl⟩,⟨_,rfl,rfl,rfl⟩,⟨_,rfl,rfl,rfl⟩,trivial⟩,⟨⟨_,_,rfl,rfl,rfl,rfl⟩,⟨_,_,rfl,rfl,rfl,rfl⟩,⟨_,_,rfl,rfl,rfl,rfl⟩,⟨_,_,rfl,rfl,rfl,rfl⟩,⟨_,_,rfl,rfl,rfl,rfl⟩,trivial⟩,by rw [hk]; decide⟩ ?_))))
     · exact ⟨by omega,rfl,rfl⟩
     ·intro a2 bo j hJ
      obtain ⟨hj,hbo,ha2⟩ := hJ
      have hbol : bo.length = j := by rw [hbo,eE]
      refine an (sr (xp N 5 [.o 5] [] [(72,pB (decide (((j : Nat) : Int) < e1.request.count)))] (re (av Z (fun c7 => ?_) (fun c7 => ?_)))))
      ·try simp only [sB] at c7
       refine aw (ak (an (aP (cK N (xq 3 [.o 3] [] ?_)))))
       let Y6 : Nat × Pv.Obj := (0,.obj [pS 1 false ay u,pN (ad u a2 65536)])
       let Y9 : Nat × Pv.Obj := (5,oB true 1 aj [bV (ag u a2 65536)])
       let Yb1 : Nat × Pv.Obj := (6,oB true 1 aj (bo ++ [bV (ag u a2 65536)]))
       let Yb7 : Nat × Pv.Obj := (2,oB true 1 aj bo)
       refine xk [(77,PV.ptr 0 0)] [] [(0,.obj [pS 1 false ay u,pN a2])] [Y6] [Y6,Y2,Yb7,Y8,Ya1] (aN 5 (pI (ag u a2 65536)) _ [0] (aA u false a2 65536 (by omega) (by omega)) ⟨Z,Z,Z⟩) (xk [(78,pI (ag u a2 65536))] [] [] [] [Y6,Y2,Yb7,Y8,Ya1] (iY aD bE Z Z Z ⟨Z,Z,Z⟩) (xk [(79,au (bV (ag u a2 65536)))] [] [] [Y9] [Y9,Y6,Y2,Yb7,Y8,Ya1] (bM (f := aj) [bV (ag u a2 65536)] bf Z bE ⟨Z,by decide⟩ (by decide) Z Z Z Z ⟨Z,Z,Z⟩) (xk [(76,PV.ref 2 0 none),(80,PV.ref 5 0 none)] [Y9] [Yb7] [Yb1,Y9] [Yb1,Y9,Y6,Y2,Y8,Ya1] (bZ (f := aj) (l := bo) (xs := [bV (ag u a2 65536)]) bf Z bE ⟨Z,by decide,by decide⟩ (da bf Z (ct (f := aj) Z Z)) Z Z (by (simp; omega)) ⟨Z,Z,Z⟩) ?_ (hs := ⟨Z,trivial⟩))))
       refine xd 2 [.o 2] [] 7 [(1,.obj [pI e1.request.fn,pI 0,pI 0,pI 0,pI 0,aH,PV.ref 6 0 none,au 0,au 0,aH]),Yb1,Y9,Y6,Y8,Ya1] (xe [(3,pB all),Ya9,Yb6,Yc0,Yb4,(17,pN j),Y0,Ya,(29,pN i)] (bG (aG (ak (bk ?_)))))
       refine qm N Z Z (qo N Z (cm (a := j) (b := 1) Z Z (by omega) (by omega) (by omega) ?_))
       refine ae N Z Z (⟨(ad u a2 65536),(bo ++ [bV (ag u a2 65536)]),(j + 1), ?_, ?_,⟨[(0,0),(1,1),(2,6),(3,3),(4,4)],by rw [hk]; decide,⟨⟨_,rfl,rfl,rfl⟩,⟨_,rfl,rfl,rfl⟩,⟨_,rfl,rfl,rfl⟩,⟨_,rfl,rfl,rfl⟩,⟨_,rfl,rfl,rfl⟩,⟨_,rfl,rfl,rfl⟩,⟨_,rfl,rfl,rfl⟩,⟨_,rfl,rfl,rfl⟩,⟨_,rfl,rfl,rfl⟩,trivial⟩,⟨⟨_,_,rfl,rfl,rfl,rfl⟩,⟨_,_,rfl,rfl,rfl,rfl⟩,⟨_,_,rfl,rfl,rfl,rfl⟩,⟨_,_,rfl,rfl,rfl,rfl⟩,⟨_,_,rfl,rfl,rfl,rfl⟩,trivial⟩,by rw [hk]; decide⟩⟩)
       ·exact ⟨by omega,uU bV 65536 u _ j hbo ha2,uT bV 65536 u _ j ha2⟩
       · omega
      try simp only [sB] at c7
      refine gF (n := 1) (j := 6) Z Z Z Z ?_
      have hz3 : bo = rb.vals := by ((rw [(Prod.mk.inj (hrb.trans (mu (by omega)))).1]; rw [hbo,show e1.request.count.toNat = j by omega]))
      refine bH (n := 1) (ds := [pI e1.request.fn,pI 0,pI 0,pI 0,pI 0,aH,pS 1 false aj rb.vals,au 0,au 0,aH]) Z ⟨le_refl _,le_refl _,le_refl _,le_refl _,le_refl _,le_refl _,le_of_eq (congrArg (fun z => pS 1 false aj z) hz3),le_refl _,le_refl _,le_refl _,trivial⟩ ?_
      have hz4 : e1.request.fn = rb.fn ∧ 0 = rb.code ∧ 0 = rb.at_ ∧ 0 = rb.count ∧ 0 = rb.sub ∧ ([] : List Bool) = rb.bits ∧ 0 = rb.and_ ∧ 0 = rb.or_ ∧ ([] : List UInt8) = rb.data := by and_intros <;> ((rw [(Prod.mk.inj (hrb.trans (mu (by omega)))).1]; done))
      refine bH (n := 1) (ds := bm rb) Z ⟨le_of_eq (congrArg pI hz4.1),le_of_eq (congrArg pI hz4.2.1),le_of_eq (congrArg pI hz4.2.2.1),le_of_eq (congrArg pI hz4.2.2.2.1),le_of_eq (congrArg pI hz4.2.2.2.2.1),be (ax 1 false) (le_of_eq (congrArg (fun z => pS 1 false ar z) hz4.2.2.2.2.2.1)),le_refl _,le_of_eq (congrArg au hz4.2.2.2.2.2.2.1),le_of_eq (congrArg au hz4.2.2.2.2.2.2.2.1),be (ax 1 false) (le_of_eq (congrArg (fun z => pS 1 false az z) hz4.2.2.2.2.2.2.2.2)),trivial⟩ (cG (aL (aL (bq (aG (ak (⟨(a2), ?_,⟨[(0,0),(1,1),(2,3)],by rw [hk]; decide,⟨⟨_,rfl,rfl,rfl⟩,⟨_,rfl,rfl,rfl⟩,⟨_,rfl,rfl,rfl⟩,⟨_,rfl,rfl,rfl⟩,⟨_,rfl,rfl,rfl⟩,⟨_,rfl,rfl,rfl⟩,⟨_,rfl,rfl,rfl⟩,trivial⟩,⟨⟨_,_,rfl,rfl,rfl,rfl⟩,⟨_,_,rfl,rfl,rfl,rfl⟩,⟨_,_,rfl,rfl,rfl,rfl⟩,trivial⟩,by rw [hk]; decide⟩⟩)))))))
      (rw [(Prod.mk.inj (hrb.trans (mu (by omega)))).2]; rw [ha2,show e1.request.count.toNat = j by omega])
    try simp only [sB,Bool.or_eq_true,Bool.or_eq_false_iff] at c6
    let Yb3 : aI := [(3,pB all),Ya9,Yc,(15,PV.ptr 3 0),Y0,Ya,(29,pN i)]
    refine xo N 83 [[.o 2],[.o 2]] [] ((decide (e1.request.fn = 5)) || (decide (e1.request.fn = 6))) (av Z (fun c9 => ?_) (fun c9 => ?_))
    ·try simp only [sB,Bool.or_eq_true,Bool.or_eq_false_iff] at c9
     refine cK N (xd 15 [.o 15] [] 4 [(3,.obj [pI e1.request.fn,pI 0,pI e1.request.at_,pI 0,pI 0,pS 1 false ar e1.request.bits,pS 1 false aj e1.request.vals,au 0,au 0,aH]),Yb8,Ya5,Yb5] (xe Yb3 ?_))
     have hz5 : e1.request.fn = rb.fn ∧ 0 = rb.code ∧ e1.request.at_ = rb.at_ ∧ 0 = rb.count ∧ 0 = rb.sub ∧ e1.request.bits = rb.bits ∧ e1.request.vals = rb.vals ∧ 0 = rb.and_ ∧ 0 = rb.or_ ∧ ([] : List UInt8) = rb.data := by and_intros <;> ((rw [(Prod.mk.inj (hrb.trans (so (by omega)))).1]; done))
     refine eF (n := 3) (ds := bm rb) Z ⟨le_of_eq (congrArg pI hz5.1),le_of_eq (congrArg pI hz5.2.1),le_of_eq (congrArg pI hz5.2.2.1),le_of_eq (congrArg pI hz5.2.2.2.1),le_of_eq (congrArg pI hz5.2.2.2.2.1),le_of_eq (congrArg (fun z => pS 1 false ar z) hz5.2.2.2.2.2.1),le_of_eq (congrArg (fun z => pS 1 false aj z) hz5.2.2.2.2.2.2.1),le_of_eq (congrArg au hz5.2.2.2.2.2.2.2.1),le_of_eq (congrArg au hz5.2.2.2.2.2.2.2.2.1),be (ax 1 false) (le_of_eq (congrArg (fun z => pS 1 false az z) hz5.2.2.2.2.2.2.2.2.2)),trivial⟩ (bG (aG (ak (⟨(ap), ?_,⟨[(0,0),(1,3),(2,1)],by rw [hk]; decide,⟨⟨_,rfl,rfl,rfl⟩,⟨_,rfl,rfl,rfl⟩,⟨_,rfl,rfl,rfl⟩,⟨_,rfl,rfl,rfl⟩,⟨_,rfl,rfl,rfl⟩,⟨_,rfl,rfl,rfl⟩,⟨_,rfl,rfl,rfl⟩,trivial⟩,⟨⟨_,_,rfl,rfl,rfl,rfl⟩,⟨_,_,rfl,rfl,rfl,rfl⟩,⟨_,_,rfl,rfl,rfl,rfl⟩,trivial⟩,by rw [hk]; decide⟩⟩))))
     (rw [(Prod.mk.inj (hrb.trans (so (by omega)))).2]; done)
    try simp only [sB,Bool.or_eq_true,Bool.or_eq_false_iff] at c9
    refine cK N (xd 10 [.o 10] [] 4 [(3,.obj [pI e1.request.fn,pI 0,pI e1.request.at_,pI e1.request.count,pI 0,aH,aH,au 0,au 0,aH]),Yb8,Ya5,Yb5] (xe Yb3 ?_))
    have hz6 : e1.request.fn = rb.fn ∧ 0 = rb.code ∧ e1.request.at_ = rb.at_ ∧ e1.request.count = rb.count ∧ 0 = rb.sub ∧ ([] : List Bool) = rb.bits ∧ ([] : List UInt16) = rb.vals ∧ 0 = rb.and_ ∧ 0 = rb.or_ ∧ ([] : List UInt8) = rb.data := by and_intros <;> ((rw [(Prod.mk.inj (hrb.trans (pe (by omega)))).1]; done))
    refine eF (n := 3) (ds := bm rb) Z ⟨le_of_eq (congrArg pI hz6.1),le_of_eq (congrArg pI hz6.2.1),le_of_eq (congrArg pI hz6.2.2.1),le_of_eq (congrArg pI hz6.2.2.2.1),le_of_eq (congrArg pI hz6.2.2.2.2.1),be (ax 1 false) (le_of_eq (congrArg (fun z => pS 1 false ar z) hz6.2.2.2.2.2.1)),be (ax 1 false) (le_of_eq (congrArg (fun z => pS 1 false aj z) hz6.2.2.2.2.2.2.1)),le_of_eq (congrArg au hz6.2.2.2.2.2.2.2.1),le_of_eq (congrArg au hz6.2.2.2.2.2.2.2.2.1),be (ax 1 false) (le_of_eq (congrArg (fun z => pS 1 false az z) hz6.2.2.2.2.2.2.2.2.2)),trivial⟩ (bG (aG (ak (⟨(ap), ?_,⟨[(0,0),(1,3),(2,1)],by rw [hk]; decide,⟨⟨_,rfl,rfl,rfl⟩,⟨_,rfl,rfl,rfl⟩,⟨_,rfl,rfl,rfl⟩,⟨_,rfl,rfl,rfl⟩,⟨_,rfl,rfl,rfl⟩,⟨_,rfl,rfl,rfl⟩,⟨_,rfl,rfl,rfl⟩,trivial⟩,⟨⟨_,_,rfl,rfl,rfl,rfl⟩,⟨_,_,rfl,rfl,rfl,rfl⟩,⟨_,_,rfl,rfl,rfl,rfl⟩,trivial⟩,by rw [hk]; decide⟩⟩))))
    (rw [(Prod.mk.inj (hrb.trans (pe (by omega)))).2]; done)
   intro ac hac
   subst hac
   let Y3 : aI := [(3,pB all),Ya9,(12,PV.ref 4 0 none),Y0,Ya,(29,pN i)]
   let Yb9 : aI := [(134,PV.ref 2 0 none),(135,PV.f (aK rb))]
   refine an (sr (xp N 2 [.o 2] [] [(99,pB (!all))] (re (av Z (fun c10 => ?_) (fun c10 => ?_)))))
   ·try simp only [sB] at c10
    refine sr (qm N Z Z ?_)
    have h11 := b9 u (ad u ac 14) (n := 11) (by decide)
    have h60 := b9 u (ad u ac 14) (n := 6) (by decide)
    let Y1 : Nat × Pv.Obj := (0,.obj [pS 1 false ay u,pN (ad u ac 14)])
    refine qo N Z (aN 3 (pI (ag u ac 14)) [Y1,Ya7,Ya2] [0] (aA u false ac 14 (by omega) (by omega)) ?_)
    refine aE [(3,pB all),Ya9,(12,PV.ref 2 0 none),Yb4,Y0,Ya,(29,pN i),(101,pI (ag u ac 14))] [Y1,Ya7,Ya2] 3 ⟨Z,Z,Z,Z,Z,Z,Z,Z,trivial⟩ Z Z (re (aP (an ?_)))
    have h14 := b9 u ac (n := 14) (by decide)
    refine bk (qo N Z (bF Z Z ?_))
    refine ae N Z Z (av Z (fun c11 => ?_) (fun c11 => ?_))
    ·try simp only [sB] at c11
     let Y : Nat × Pv.Obj := (1,.obj [pI ((aB rb.fn (1 + (ag u (ad u ac 14) 11))).fn),pI ((aB rb.fn (1 + (ag u (ad u ac 14) 11))).code),pI ((aB rb.fn (1 + (ag u (ad u ac 14) 11))).at_),pI ((aB rb.fn (1 + (ag u (ad u ac 14) 11))).count),pI ((aB rb.fn (1 + (ag u (ad u ac 14) 11))).sub),pS 1 false ar ((aB rb.fn (1 + (ag u (ad u ac 14) 11))).bits),pS 1 false aj ((aB rb.fn (1 + (ag u (ad u ac 14) 11))).vals),au ((aB rb.fn (1 + (ag u (ad u ac 14) 11))).and_),au ((aB rb.fn (1 + (ag u (ad u ac 14) 11))).or_),pS 1 false az ((aB rb.fn (1 + (ag u (ad u ac 14) 11))).data)])
     let Ya4 : Nat × Pv.Obj := (0,.obj [pS 1 false ay u,pN (ad u (ad u ac 14) 11)])
     refine cK N (xq 3 [.o 3] [] (xk [(106,PV.ptr 0 0)] [] [Y1] [Ya4] [Ya4,Ya7,Ya2] (aN 3 (pI (ag u (ad u ac 14) 11)) _ [0] (aA u false (ad u ac 14) 11 (by omega) (by omega)) ⟨Z,Z,Z⟩) (xd 3 [.o 1,.c (PV.f (aK (aB rb.fn (1 + (ag u (ad u ac 14) 11))))),.o 1] [bu (1 + (ag u (ad u ac 14) 11)),T Tryz.prog 26 [pI rb.fn,pI (1 + (ag u (ad u ac 14) 11))] 0 [] (Ret (PV.f (aK (aB rb.fn (1 + (ag u (ad u ac 14) 11))))) 0 [])] 3 [Y,Ya4,Ya2] ?_ (hc := ⟨by unfold bu; (omega),(kQ rb.fn (1 + (ag u (ad u ac 14) 11))),trivial⟩))))
     refine xe Y4 (bG (aG (ak (bk (qm N Z Z ?_)))))
     refine qo N Z (bj aM Z Z Z (nb Z) ?_)
     refine qo N Z (bM (f := aK) [(aB rb.fn (1 + (ag u (ad u ac 14) 11)))] de Z aM ⟨Z,by decide⟩ (by decide) Z Z Z Z ?_)
     refine qo N Z (bZ (f := aK) (l := os) (xs := [(aB rb.fn (1 + (ag u (ad u ac 14) 11)))]) de Z aM ⟨Z,by decide,by decide⟩ (da de Z (ct (f := aK) Z Z)) Z Z (by (simp; omega)) ?_)
     refine qa N Z Z (aE Y3 [(4,oB true 10 aK (os ++ [(aB rb.fn (1 + (ag u (ad u ac 14) 11)))])),(3,oB true 10 aK [(aB rb.fn (1 + (ag u (ad u ac 14) 11)))]),Y,Ya4] 5 ⟨Z,Z,Z,Z,Z,Z,trivial⟩ Z Z (bG (aG (ak (bk (qo N Z (cm (a := i) (b := 1) Z Z (by omega) (by omega) (by omega) ?_)))))))
     refine qm N Z Z (re (⟨(ad u (ad u ac 14) 11),(os ++ [(aB rb.fn (1 + (ag u (ad u ac 14) 11)))]),(i + 1), ?_, ?_,⟨[(0,0),(1,4)],by rw [hk]; decide,⟨⟨_,rfl,rfl,rfl⟩,⟨_,rfl,rfl,rfl⟩,⟨_,rfl,rfl,rfl⟩,⟨_,rfl,rfl,rfl⟩,⟨_,rfl,rfl,rfl⟩,⟨_,rfl,rfl,rfl⟩,trivial⟩,⟨⟨_,_,rfl,rfl,rfl,rfl⟩,⟨_,_,rfl,rfl,rfl,rfl⟩,trivial⟩,by rw [hk]; decide⟩⟩))
     ·refine ⟨by omega, ?_,by simp; omega⟩
      exact kF (by simp_all) hgo he1 hrb.symm (Ar (by omega))
     · omega
    try simp only [sB] at c11
    refine sr (qo N Z (bF Z Z ?_))
    refine ae N Z Z (av Z (fun c12 => ?_) (fun c12 => ?_))
    ·try simp only [sB] at c12
     let Yb : Nat × Pv.Obj := (0,.obj [pS 1 false ay u,pN (ad u (ad u ac 14) 6)])
     refine bk (qm N Z Z (qo N Z (aN 3 (pI (ag u (ad u ac 14) 6)) [Yb,Ya7,Ya2] [0] (aA u false (ad u ac 14) 6 (by omega) (by omega)) ?_)))
     refine qo N Z (gm (r := 1 + (ag u (ad u ac 14) 6)) Z Z Z (by omega) ?_)
     refine qo N Z (aX aM Z Z aD (by decide) Z ?_)
     refine qo N Z (aC aD Z Z Z Z Z (nb Z) ?_)
     let Ya0 : Nat × Pv.Obj := (1,.obj [pI (1 + (ag u (ad u ac 14) 6)),pI rb.code,pI rb.at_,pI rb.count,pI rb.sub,pS 1 false ar rb.bits,pS 1 false aj rb.vals,au rb.and_,au rb.or_,pS 1 false az rb.data])
     refine aE Y4 [Ya0,Yb,Ya2] 3 ⟨Z,Z,Z,Z,Z,Z,Z,trivial⟩ Z Z (bG (aG (ak (bk (qm N Z Z (qo N Z (bj aM Z Z Z (nb Z) ?_)))))))
     refine qo N Z (bM (f := aK) [(⟨1 + (ag u (ad u ac 14) 6),rb.code,rb.at_,rb.count,rb.sub,rb.bits,rb.vals,rb.and_,rb.or_,rb.data⟩ : TReply)] de Z aM ⟨Z,by decide⟩ (by decide) Z Z Z Z ?_)
     refine qo N Z (bZ (f := aK) (l := os) (xs := [(⟨1 + (ag u (ad u ac 14) 6),rb.code,rb.at_,rb.count,rb.sub,rb.bits,rb.vals,rb.and_,rb.or_,rb.data⟩ : TReply)]) de Z aM ⟨Z,by decide,by decide⟩ (da de Z (ct (f := aK) Z Z)) Z Z (by (simp; omega)) ?_)
     refine qa N Z Z (aE Y3 [(4,oB true 10 aK (os ++ [(⟨1 + (ag u (ad u ac 14) 6),rb.code,rb.at_,rb.count,rb.sub,rb.bits,rb.vals,rb.and_,rb.or_,rb.data⟩ : TReply)])),(3,oB true 10 aK [(⟨1 + (ag u (ad u ac 14) 6),rb.code,rb.at_,rb.count,rb.sub,rb.bits,rb.vals,rb.and_,rb.or_,rb.data⟩ : TReply)]),Ya0,Yb] 5 ⟨Z,Z,Z,Z,Z,Z,trivial⟩ Z Z (bG (aG (ak (bk (qo N Z (cm (a := i) (b := 1) Z Z (by omega) (by omega) (by omega) ?_)))))))
     refine qm N Z Z (re (⟨(ad u (ad u ac 14) 6),(os ++ [(⟨1 + (ag u (ad u ac 14) 6),rb.code,rb.at_,rb.count,rb.sub,rb.bits,rb.vals,rb.and_,rb.or_,rb.data⟩ : TReply)]),(i + 1), ?_, ?_,⟨[(0,0),(1,4)],by rw [hk]; decide,⟨⟨_,rfl,rfl,rfl⟩,⟨_,rfl,rfl,rfl⟩,⟨_,rfl,rfl,rfl⟩,⟨_,rfl,rfl,rfl⟩,⟨_,rfl,rfl,rfl⟩,⟨_,rfl,rfl,rfl⟩,trivial⟩,⟨⟨_,_,rfl,rfl,rfl,rfl⟩,⟨_,_,rfl,rfl,rfl,rfl⟩,trivial⟩,by rw [hk]; decide⟩⟩))
     ·refine ⟨by omega, ?_,by simp; omega⟩
      exact kF (by simp_all) hgo he1 hrb.symm (Aq (by omega))
     · omega
    try simp only [sB] at c12
    refine sr (qo N Z (bF Z Z ?_))
    refine ae N Z Z (av Z (fun c13 => ?_) (fun c13 => ?_))
    ·try simp only [sB] at c13
     refine bk (qo N Z (bM (f := aj) ([] : List UInt16) bf Z bE ⟨Z,by decide⟩ (by decide) Z Z Z Z ?_))
     refine xp N 2 [.o 2] [] [(120,pS 1 false aj rb.vals)] (qo N Z (bZ (f := aj) (l := ([] : List UInt16)) (xs := rb.vals) bf Z bE ⟨Z,by decide,by decide⟩ (da bf Z (cf (f := aj) Z)) Z Z (by (simp; omega)) ?_))
     refine qo N Z (bM (f := aj) ([7] : List UInt16) bf Z bE ⟨Z,by decide⟩ (by decide) Z Z Z Z ?_)
     refine qo N Z (bZ (f := aj) (l := rb.vals) (xs := ([7] : List UInt16)) bf Z bE ⟨Z,by decide,by decide⟩ (da bf Z (ct (f := aj) Z Z)) Z Z (by (simp; omega)) ?_)
     refine qo N Z (aX aM Z Z bf (by decide) Z ?_)
     refine qo N Z (aC bf Z Z Z Z Z (nb Z) ?_)
     let Ya8 : Nat × Pv.Obj := (1,.obj [pI rb.fn,pI rb.code,pI rb.at_,pI rb.count,pI rb.sub,pS 1 false ar rb.bits,PV.ref 6 0 none,au rb.and_,au rb.or_,pS 1 false az rb.data])
     refine aE Y4 [Ya8,(6,oB true 1 aj (rb.vals ++ ([7] : List UInt16))),(5,oB true 1 aj ([7] : List UInt16)),Y1,Ya2] 7 ⟨Z,Z,Z,Z,Z,Z,Z,trivial⟩ Z Z (bG (aG (ak (bk (qm N Z Z (qo N Z (bj aM Z Z Z (nb Z) ?_)))))))
     refine qo N Z (bM (f := aK) [(⟨rb.fn,rb.code,rb.at_,rb.count,rb.sub,rb.bits,rb.vals ++ ([7] : List UInt16),rb.and_,rb.or_,rb.data⟩ : TReply)] de Z aM ⟨Z,by decide⟩ (by decide) Z Z Z Z ?_)
     refine qo N Z (bZ (f := aK) (l := os) (xs := [(⟨rb.fn,rb.code,rb.at_,rb.count,rb.sub,rb.bits,rb.vals ++ ([7] : List UInt16),rb.and_,rb.or_,rb.data⟩ : TReply)]) de Z aM ⟨Z,by decide,by decide⟩ (da de Z (ct (f := aK) Z Z)) Z Z (by (simp; omega)) ?_)
     refine qa N Z Z (aE [(3,pB all),Ya9,(12,PV.ref 8 0 none),Y0,Ya,(29,pN i)] [(8,oB true 10 aK (os ++ ([(⟨rb.fn,rb.code,rb.at_,rb.count,rb.sub,rb.bits,rb.vals ++ ([7] : List UInt16),rb.and_,rb.or_,rb.data⟩ : TReply)]))),(7,oB true 10 aK ([(⟨rb.fn,rb.code,rb.at_,rb.count,rb.sub,rb.bits,rb.vals ++ ([7] : List UInt16),rb.and_,rb.or_,rb.data⟩ : TReply)])),(6,oB false 1 aj (rb.vals ++ ([7] : List UInt16))),Ya8,(5,oB true 1 aj ([7] : List UInt16)),Y1] 9 ⟨Z,Z,Z,Z,Z,Z,trivial⟩ Z Z (bG (aG (ak (bk (qo N Z (cm (a := i) (b := 1) Z Z (by omega) (by omega) (by omega) ?_)))))))
     refine qm N Z Z (re (⟨(ad u ac 14),(os ++ ([(⟨rb.fn,rb.code,rb.at_,rb.count,rb.sub,rb.bits,rb.vals ++ ([7] : List UInt16),rb.and_,rb.or_,rb.data⟩ : TReply)])),(i + 1), ?_, ?_,⟨[(0,0),(1,8)],by rw [hk]; decide,⟨⟨_,rfl,rfl,rfl⟩,⟨_,rfl,rfl,rfl⟩,⟨_,rfl,rfl,rfl⟩,⟨_,rfl,rfl,rfl⟩,⟨_,rfl,rfl,rfl⟩,⟨_,rfl,rfl,rfl⟩,trivial⟩,⟨⟨_,_,rfl,rfl,rfl,rfl⟩,⟨_,_,rfl,rfl,rfl,rfl⟩,trivial⟩,by rw [hk]; decide⟩⟩))
     ·refine ⟨by omega, ?_,by simp; omega⟩
      exact kF (by simp_all) hgo he1 hrb.symm (Ap (by omega))
     · omega
    try simp only [sB] at c13
    refine sr (qo N Z (bF Z Z ?_))
    refine ae N Z Z (av Z (fun c14 => ?_) (fun c14 => ?_))
    ·try simp only [sB] at c14
     let Ya6 : Nat × Pv.Obj := (1,.obj [pI rb.fn,pI rb.code,pI (rb.at_ + 70000),pI rb.count,pI rb.sub,pS 1 false ar rb.bits,pS 1 false aj rb.vals,au rb.and_,au rb.or_,pS 1 false az rb.data])
     refine bk (xm N 5 [.o 5] [bu (rb.at_ + 70000)] [] 3 [Ya6,Y1,Ya2] ?_ (hc := ⟨by unfold bu; (omega),trivial⟩))
     refine bG (aG (ak (bk (qm N Z Z (qo N Z (bj aM Z Z Z (nb Z) ?_))))))
     refine qo N Z (bM (f := aK) [(⟨rb.fn,rb.code,rb.at_ + 70000,rb.count,rb.sub,rb.bits,rb.vals,rb.and_,rb.or_,rb.data⟩ : TReply)] de Z aM ⟨Z,by decide⟩ (by decide) Z Z Z Z ?_)
     refine qo N Z (bZ (f := aK) (l := os) (xs := [(⟨rb.fn,rb.code,rb.at_ + 70000,rb.count,rb.sub,rb.bits,rb.vals,rb.and_,rb.or_,rb.data⟩ : TReply)]) de Z aM ⟨Z,by decide,by decide⟩ (da de Z (ct (f := aK) Z Z)) Z Z (by (simp; omega)) ?_)
     refine qa N Z Z (aE Y3 [(4,oB true 10 aK (os ++ [(⟨rb.fn,rb.code,rb.at_ + 70000,rb.count,rb.sub,rb.bits,rb.vals,rb.and_,rb.or_,rb.data⟩ : TReply)])),(3,oB true 10 aK [(⟨rb.fn,rb.code,rb.at_ + 70000,rb.count,rb.sub,rb.bits,rb.vals,rb.and_,rb.or_,rb.data⟩ : TReply)]),Ya6,Y1] 5 ⟨Z,Z,Z,Z,Z,Z,trivial⟩ Z Z (bG (aG (ak (bk (qo N Z (cm (a := i) (b := 1) Z Z (by omega) (by omega) (by omega) ?_)))))))
     refine qm N Z Z (re (⟨(ad u ac 14),(os ++ [(⟨rb.fn,rb.code,rb.at_ + 70000,rb.count,rb.sub,rb.bits,rb.vals,rb.and_,rb.or_,rb.data⟩ : TReply)]),(i + 1), ?_, ?_,⟨[(0,0),(1,4)],by rw [hk]; decide,⟨⟨_,rfl,rfl,rfl⟩,⟨_,rfl,rfl,rfl⟩,⟨_,rfl,rfl,rfl⟩,⟨_,rfl,rfl,rfl⟩,⟨_,rfl,rfl,rfl⟩,⟨_,rfl,rfl,rfl⟩,trivial⟩,⟨⟨_,_,rfl,rfl,rfl,rfl⟩,⟨_,_,rfl,rfl,rfl,rfl⟩,trivial⟩,by rw [hk]; decide⟩⟩))
     ·refine ⟨by omega, ?_,by simp; omega⟩
      exact kF (by simp_all) hgo he1 hrb.symm (Ao (by omega))
     · omega
    try simp only [sB] at c14
    refine sr (qo N Z (bF Z Z ?_))
    refine ae N Z Z (av Z (fun c15 => ?_) (fun c15 => ?_))
    ·try simp only [sB] at c15
     refine sr (qm N Z Z (ae N Z Z (eN (H' := [Y1,Ya7,(2,oB true 10 aK (ansGo u all (splitP t.functions t.windows q).1 0))]) (congrArg (fun z => ([Y1,Ya7,(2,oB true 10 aK z)] : ah)) (show os = ansGo u all (splitP t.functions t.windows q).1 0 by (rw [← hS1]; exact zM (by simp_all) hgo he1 hrb.symm (An (by omega))))) (w_ret (am (af (am (af (af ?_)))))))))
     refine am (af ?_)
     exact bB (nx1 := 1) (H1 := Yb2) [(0,2)] (ret_tmp Z ret_nil) Z (by decide) ⟨⟨_,_,Z,Z,Z,Z⟩,trivial⟩ (by decide) Z ⟨Z,Z,Z⟩
    try simp only [sB] at c15
    refine aw (aG (ak (bk (xp N 2 [.o 2] [] Yb9 (qo N Z (bM (f := aK) [rb] de Z aM ⟨Z,by decide⟩ (by decide) Z Z Z Z ?_))))))
    refine qo N Z (bZ (f := aK) (l := os) (xs := [rb]) de Z aM ⟨Z,by decide,by decide⟩ (da de Z (ct (f := aK) Z Z)) Z Z (by (simp; omega)) ?_)
    refine qa N Z Z (aE Y3 [(4,oB true 10 aK (os ++ [rb])),(3,oB true 10 aK [rb]),Y1,Ya7] 5 ⟨Z,Z,Z,Z,Z,Z,trivial⟩ Z Z (bG (aG (ak (bk (qo N Z (cm (a := i) (b := 1) Z Z (by omega) (by omega) (by omega) ?_)))))))
    refine qm N Z Z (re (⟨(ad u ac 14),(os ++ [rb]),(i + 1), ?_, ?_,⟨[(0,0),(1,4)],by rw [hk]; decide,⟨⟨_,rfl,rfl,rfl⟩,⟨_,rfl,rfl,rfl⟩,⟨_,rfl,rfl,rfl⟩,⟨_,rfl,rfl,rfl⟩,⟨_,rfl,rfl,rfl⟩,⟨_,rfl,rfl,rfl⟩,trivial⟩,⟨⟨_,_,rfl,rfl,rfl,rfl⟩,⟨_,_,rfl,rfl,rfl,rfl⟩,trivial⟩,by rw [hk]; decide⟩⟩))
    ·refine ⟨by omega, ?_,by simp; omega⟩
     exact kF (by simp_all) hgo he1 hrb.symm (Am (by omega))
    · omega
   try simp only [sB] at c10
   refine aw (ak (bk (xp N 2 [.o 2] [] Yb9 (qo N Z (bM (f := aK) [rb] de Z aM ⟨Z,by decide⟩ (by decide) Z Z Z Z ?_)))))
   refine qo N Z (bZ (f := aK) (l := os) (xs := [rb]) de Z aM ⟨Z,by decide,by decide⟩ (da de Z (ct (f := aK) Z Z)) Z Z (by (simp; omega)) ?_)
   refine qa N Z Z (aE Y3 [(4,oB true 10 aK (os ++ [rb])),(3,oB true 10 aK [rb]),(0,.obj [pS 1 false ay u,pN ac]),Ya7] 5 ⟨Z,Z,Z,Z,Z,Z,trivial⟩ Z Z (bG (aG (ak (bk (qo N Z (cm (a := i) (b := 1) Z Z (by omega) (by omega) (by omega) ?_)))))))
   refine qm N Z Z (re (⟨(ac),(os ++ [rb]),(i + 1), ?_, ?_,⟨[(0,0),(1,4)],by rw [hk]; decide,⟨⟨_,rfl,rfl,rfl⟩,⟨_,rfl,rfl,rfl⟩,⟨_,rfl,rfl,rfl⟩,⟨_,rfl,rfl,rfl⟩,⟨_,rfl,rfl,rfl⟩,⟨_,rfl,rfl,rfl⟩,trivial⟩,⟨⟨_,_,rfl,rfl,rfl,rfl⟩,⟨_,_,rfl,rfl,rfl,rfl⟩,trivial⟩,by rw [hk]; decide⟩⟩))
   ·refine ⟨by omega, ?_,by simp; omega⟩
    exact BA (by simp_all) hgo he1 hrb.symm
   · omega
  try simp only [sB] at c1
  refine cG (aL (aL (bq (ak (sr (qm N Z Z (ae N Z Z (eN (H' := [Ya5,(1,oB true 10 aK (ansGo u all (splitP t.functions t.windows q).1 0))]) (congrArg (fun z => ([Ya5,(1,oB true 10 aK z)] : ah)) (show os = ansGo u all (splitP t.functions t.windows q).1 0 by (rw [← hS1,← hgo,Ab (by omega),List.append_nil]; done))) (w_ret ?_)))))))))
  exact bB (nx1 := 1) (H1 := Yb2) [(0,1)] (ret_tmp Z ret_nil) Z (by decide) ⟨⟨_,_,Z,Z,Z,Z⟩,trivial⟩ (by decide) Z ⟨Z,Z,Z⟩
section
variable {F : Int}{l : List TWindow}{q : TRequest}
theorem rW {s a n : Int}{p : TPiece} (h : p ∈ mapL l s a n) : p.count ≤ n := by
  obtain ⟨i,hi⟩ := List.getElem?_of_mem h
  obtain ⟨_,_,_,h4,h5,_⟩ := nm hi
  omega
theorem n5 (hq : q.count ≤ 25 ∧ q.bits.length ≤ 25 ∧ q.vals.length ≤ 25) {p : TPiece} (h : p ∈ pW l q) : p.count ≤ 25 := by
  unfold pW at h
  repeat' split at h
  all_goals first|(cases h; done)|(have := rW h; omega)
theorem vm (hq : q.count ≤ 25 ∧ q.bits.length ≤ 25 ∧ q.vals.length ≤ 25) {p : TPiece} (h : p ∈ pR l q) : p.count ≤ 25 := by
  unfold pR at h
  repeat' split at h
  all_goals first|(cases h; done)|(have := rW h; omega)
theorem uM {p : TPiece} (h : p.count ≤ 25) : (dc q p).request.count ≤ 25 := by
  unfold dc
  repeat' split
  all_goals first|(simp only; omega)|(simp; done)
theorem ig (hq : q.count ≤ 25 ∧ q.bits.length ≤ 25 ∧ q.vals.length ≤ 25) : ∀ p ∈ (splitP F l q).1,SmallP p := by
  intro p hp
  by_cases h0 : bL F l q = 0
  · rw [eJ h0] at hp
    simp only at hp
    by_cases h22 : q.fn = 22
    · unfold fj at hp
      rw [if_pos h22] at hp
      simp only [List.mem_cons,List.not_mem_nil,or_false] at hp
      rcases hp with rfl|rfl
      · exact ⟨by simp,by simp,by simp⟩
      · exact ⟨by simp,by simp,by simp⟩
    · rw [eA h22] at hp
      rcases List.mem_append.1 hp with h|h
      · obtain ⟨x,hx,rfl⟩ := List.mem_map.1 h
        have h1 := pw q x
        exact ⟨uM (n5 hq hx),by omega,by omega⟩
      · obtain ⟨x,hx,rfl⟩ := List.mem_map.1 h
        exact ⟨vm hq hx,Nat.zero_le _,Nat.zero_le _⟩
  · rw [gQ h0] at hp; cases hp
end
section
variable {F : Int}{l : List TWindow}{q : TRequest}{v : List Int}
theorem st : ∀ {ps : List TPart}{a : Nat},(ansGo v true ps a).length = ps.length
  | [],_ => rfl
  | p :: t,a => by rw [ansGo,if_pos rfl,List.length_cons,st,List.length_cons]
theorem vY (L : List Int) (p : TPart) (a : Nat) : (cV L p a).1.code = 0 := by
  unfold cV
  repeat' split
  all_goals rfl
theorem qg : ∀ {ps : List TPart}{a : Nat},∀ r ∈ ansGo v true ps a,r.code = 0
  | [],_,r,h => by cases h
  | p :: t,a,r,h => by
    rw [ansGo,if_pos rfl] at h
    rcases List.mem_cons.1 h with rfl|h
    · exact vY _ _ _
    · exact qg r h
theorem xQ (hq : q.count ≤ 25 ∧ q.bits.length ≤ 25 ∧ q.vals.length ≤ 25) {all : Bool}{a : Nat} : (ansGo v all (splitP F l q).1 a).length ≤ 6 := by
  have h1 := (kg (L := v) (all := all) (a := a) (ig (F := F) (l := l) hq)).1
  have h2 := (j0 F l q).1
  omega
theorem qh (hq : q.count ≤ 25 ∧ q.bits.length ≤ 25 ∧ q.vals.length ≤ 25) {all : Bool}{a : Nat} : ∀ r ∈ ansGo v all (splitP F l q).1 a,r.bits.length ≤ 5000 ∧ r.vals.length ≤ 5000 ∧ r.data.length ≤ 5000 := by
  intro r hr
  obtain ⟨h1,h2,h3⟩ := (kg (L := v) (all := all) (a := a) (ig (F := F) (l := l) hq)).2 r hr
  omega
theorem mU {f c : Int} (hc : 1 ≤ c ∧ c ≤ 255) : (aB f c).code = c := by
  unfold aB; simp only; omega
end
abbrev FJ : Int := 65800
abbrev JQ : TRequest := ⟨3,2,4,0,0,[],[],0,0⟩
abbrev v8 : TRequest := ⟨16,1,1,0,0,[],[5],0,0⟩
theorem yi : dr [⟨0,4⟩,⟨4,4⟩] ⟨1,1⟩ = some [⟨1,1⟩] := by
  unfold dr
  rw [if_pos (by decide),iy (i := 0) (x := ⟨0,4⟩) (by decide) (by decide) rfl (by decide),kf (by decide)] <;> rfl
theorem Cp : bN LK 3 1 1 = true := by unfold bN cz; rw [qD,yi]; rfl
theorem Co : mapL LK 3 1 1 = [⟨1,101,1⟩] := by unfold mapL d5 cE; rw [qD,yi]; decide
theorem qE : splitP FJ LK JQ = ([⟨⟨3,102,2,0,0,[],[],0,0⟩,false⟩,⟨⟨3,50,2,0,0,[],[],0,0⟩,false⟩],0) := by
  have e1 : pR LK JQ = [⟨2,102,2⟩,⟨4,50,2⟩] := Cq
  have e2 : pW LK JQ = [] := rfl
  have e3 : dH LK JQ = true := Cr
  rw [eJ (jF (by decide +kernel) (by decide +kernel) e3 (by rw [e1,e2]; decide)),eA (by decide),e1,e2]; rfl
theorem Cb : splitP FJ LK v8 = ([⟨⟨16,101,1,0,0,[],[5],0,0⟩,true⟩],0) := by
  have e1 : pR LK v8 = [] := rfl
  have e2 : pW LK v8 = [⟨1,101,1⟩] := Co
  have e3 : dH LK v8 = true := Cp
  rw [eJ (jF (by decide +kernel) (by decide +kernel) e3 (by rw [e1,e2]; decide)),eA (by decide),e1,e2]; rfl
abbrev JR (l : List UInt16) : TReply := ⟨3,0,0,0,0,[],l,0,0,[]⟩
theorem n9 {q : TRequest}{ps : List TPart}{rs : List TReply} (h : splitP FJ LK q = (ps,0)) (h2 : dP q.fn = false) : dt FJ LK q rs = match gP (rs.take ps.length) with
    | some r => aB q.fn r.code
    | none => if rs.length < ps.length ∨ anyJ ps (rs.take ps.length) = true then aB q.fn 4 else ba q (bitsJ ps (rs.take ps.length)) (valsJ ps (rs.take ps.length)) := by
  unfold dt; rw [if_neg (by rw [← jx,h]; simp),if_neg (by rw [h2]; decide),h] <;> rfl
theorem Cx : dt FJ LK JQ [JR [1,2],JR [3,4]] = JR [1,2,3,4] := by rw [n9 qE rfl]; decide +kernel
theorem Cw : dt FJ LK JQ [JR [1,2]] = aB 3 4 := by rw [n9 qE rfl]; decide +kernel
theorem Cv : dt FJ LK JQ [JR [1,2],⟨3,11,0,0,0,[],[],0,0,[]⟩] = aB 3 11 := by rw [n9 qE rfl]; decide +kernel
theorem Cu : dt FJ LK ⟨8,0,0,0,0,[],[1],0,0⟩ [] = aB 8 4 := nr (jF (by decide +kernel) (by decide +kernel) rfl (by decide)) rfl
theorem Ct : dt FJ LK v8 [⟨16,0,101,1,0,[],[],0,0,[]⟩,⟨3,9,0,0,0,[],[],0,0,[]⟩] = ⟨16,0,1,1,0,[],[],0,0,[]⟩ := by rw [n9 Cb rfl]; decide +kernel
theorem Cs : dt FJ LK JQ [JR [1,2],JR [3]] = aB 3 4 := by rw [n9 qE rfl]; decide +kernel
end Go.Proofs.YtlcmbkkimgdnmaaGreat
