/- Part 3 of the proof: lemmas that the row of the law leans on; nothing is assumed. -/
import Derived.Below
import Derived.ChangeArms
import Derived.KernelRfl
import Derived.Laws.StructEq
import Derived.Test.YtbldkkabkijpgaaK2
namespace Go.Proofs.Ytbldkkabkijpgaa
open Go.Am

set_option linter.unusedSimpArgs false
section
variable {A : AProg} (hA : Prg A)
include hA

/-- short, of a list as the row hands it over. -/
theorem c15' {D σ v} {l : List OpT} {most : Nat} (hv : v = .slice none 0 0 ∨ ∃ base, v = .slice base l.length (l.length + 5)) (h : SlR opK D σ v l) {R : Value → AHeap → Prop}
    (hR : ∀ base' c', SlR opK D σ (.slice base' (l.take most).length c') (l.take most) → R (.slice base' (l.take most).length c') σ) : C A 15 [v, .int .i64 most] σ R := by
  rcases hv with rfl | ⟨base, rfl⟩
  · have hl : l = [] := h.none_nil.1
    subst hl
    refine C_fn s15 (hA.at rfl) ?_
    have hl' : ¬ (((0 : Nat) : Int) > (most : Int)) := by omega
    simp only [s15, sx, argsFr, Sq, SI.wanted, AFr.ev, AFr.evV, AFr.get, AFr.box, AFr.put, AFr.setb, AV.val, callee, evArgs, aBin, aUn, oneCell, cellsOf, Value.cells, evParts, evElems, evAll, fillP, zeros, RetK, resAll, resOf, tupleOf, bnd, intOf?, AFr.keep, RefT.cells, Nat.reduceBEq, Nat.reduceAdd, Nat.reduceMul, Nat.reduceLeDiff, Nat.reduceEqDiff, reduceCtorEq, Int.reduceEq, Int.reduceLT, Int.reduceLE, Int.reduceAdd, Int.reduceSub, hl']
    have := hR none 0
    simp only [List.take_nil, List.length_nil] at this
    exact this h
  · exact c15 hA h hR

/-- The secret of a call. -/
def entOf (o : OpT) : Ent := ⟨o.name, [⟨1, o.value, ⟨#[]⟩⟩]⟩

theorem c3 {σ vr vs} {raw : List OpT} {segs : List Int} (hvr : vr = .slice none 0 0 ∨ ∃ base, vr = .slice base raw.length (raw.length + 5)) (hr : SlR opK [] σ vr raw) (hs : SlR intK [] σ vs segs) :
    C A 3 [vr, vs] σ fun r _ => r = .bool true := by
  refine C_fn s3 (hA.at rfl) ?_
  obtain ⟨br, cr, rfl⟩ := hr.shape
  obtain ⟨bs, cs, rfl⟩ := hs.shape
  simp only [s3, sx, argsFr, Sq, SI.wanted, AFr.ev, AFr.evV, AFr.get, AFr.box, AFr.put, AFr.setb, AV.val, callee, evArgs, aBin, aUn, oneCell, cellsOf, Value.cells, evParts, evElems, evAll, fillP, zeros, RetK, resAll, resOf, tupleOf, bnd, intOf?, AFr.keep, RefT.cells, Nat.reduceBEq, Nat.reduceAdd, Nat.reduceMul, Nat.reduceLeDiff, Nat.reduceEqDiff, reduceCtorEq, Int.reduceEq, Int.reduceLT, Int.reduceLE, Int.reduceAdd, Int.reduceSub]
  refine Or.inl (c13 hA (D0 := []) (by simp) (fun σ1 hh1 hm1 => ?_))
  simp only [sx, argsFr, Sq, SI.wanted, AFr.ev, AFr.evV, AFr.get, AFr.box, AFr.put, AFr.setb, AV.val, callee, evArgs, aBin, aUn, oneCell, cellsOf, Value.cells, evParts, evElems, evAll, fillP, zeros, RetK, resAll, resOf, tupleOf, bnd, intOf?, AFr.keep, RefT.cells, Nat.reduceBEq, Nat.reduceAdd, Nat.reduceMul, Nat.reduceLeDiff, Nat.reduceEqDiff, reduceCtorEq, Int.reduceEq, Int.reduceLT, Int.reduceLE, Int.reduceAdd, Int.reduceSub, aEq]
  refine Or.inl (c14 hA (heapStore hA σ.size) (D0 := []) (N := [] ++ [σ.size]) (s := []) ⟨[], rfl, hh1, by simp⟩ (by simp) (fun e s' N' σ2 hw he hi hm => ?_) (fun root s' N' σ2 hw hi2 hm2 => ?_))
  · simp [heapStore] at hw
  have hw : refN 0 = root ∧ [⟨true, [], []⟩] = s' := by simpa [heapStore] using hw
  obtain ⟨rfl, rfl⟩ := hw
  simp only [sx, argsFr, Sq, SI.wanted, AFr.ev, AFr.evV, AFr.get, AFr.box, AFr.put, AFr.setb, AV.val, callee, evArgs, aBin, aUn, oneCell, cellsOf, Value.cells, evParts, evElems, evAll, fillP, zeros, RetK, resAll, resOf, tupleOf, bnd, intOf?, AFr.keep, RefT.cells, Nat.reduceBEq, Nat.reduceAdd, Nat.reduceMul, Nat.reduceLeDiff, Nat.reduceEqDiff, reduceCtorEq, Int.reduceEq, Int.reduceLT, Int.reduceLE, Int.reduceAdd, Int.reduceSub]
  have hmA : Mv [] σ N' σ2 := hm1.trans hm2
  have hr2 : SlR opK N' σ2 (.slice br raw.length cr) raw := hr.step hmA
  refine Or.inl (c15' hA (most := 40) hvr hr2 (fun b3 c3 hsl => ?_))
  simp only [sx, argsFr, Sq, SI.wanted, AFr.ev, AFr.evV, AFr.get, AFr.box, AFr.put, AFr.setb, AV.val, callee, evArgs, aBin, aUn, oneCell, cellsOf, Value.cells, evParts, evElems, evAll, fillP, zeros, RetK, resAll, resOf, tupleOf, bnd, intOf?, AFr.keep, RefT.cells, Nat.reduceBEq, Nat.reduceAdd, Nat.reduceMul, Nat.reduceLeDiff, Nat.reduceEqDiff, reduceCtorEq, Int.reduceEq, Int.reduceLT, Int.reduceLE, Int.reduceAdd, Int.reduceSub]
  have hraw : (raw.take 40).length ≤ 40 := by simp; omega
  have t0 : Tree [(⟨true, [], []⟩ : NodeT)] 0 (refN 0) [] := ⟨⟨⟨true, [], []⟩, rfl, rfl, by simp [sizeP], .inl rfl⟩, List.Pairwise.nil⟩
  generalize hl40 : raw.take 40 = l at hsl hraw
  refine Lp_ind (fun i => l.length - i) (fun i f τ => ∃ H h root es N, f.keep [1, 5, 6, 35, 36, 37] [6] =
      some ⟨[(1, .v (.slice bs segs.length cs)), (5, .v (.pointer (some ⟨σ.size, 0, none⟩))), (6, .l 6 0), (35, .v (.slice b3 l.length c3)), (36, .v (.int .i64 l.length)), (37, .v (.int .i64 i))], [(6, RefT.cells root)]⟩ ∧
    i ≤ l.length ∧ (heapStore hA σ.size).is [] N τ H ∧ Tree H h root es ∧ es.length ≤ i ∧ H.length ≤ 1 + 20 * i ∧ Mv N' σ2 N τ) ?_ 0 _ _ ⟨_, 0, refN 0, [], N', rfl, Nat.zero_le _, hi2, t0, Nat.le_refl _, by simp, Mv.refl _ _⟩
  rintro i f τ ⟨H, h, root, es, N, hkp, hi, his, ht, hes, hH, hm⟩ ih
  rw [St_seq, St_keep hkp]
  clear hkp
  have hslτ : SlR opK N τ (.slice b3 l.length c3) l := hsl.step hm
  simp only [sx, argsFr, Sq, SI.wanted, AFr.ev, AFr.evV, AFr.get, AFr.box, AFr.put, AFr.setb, AV.val, callee, evArgs, aBin, aUn, oneCell, cellsOf, Value.cells, evParts, evElems, evAll, fillP, zeros, RetK, resAll, resOf, tupleOf, bnd, intOf?, AFr.keep, RefT.cells, Nat.reduceBEq, Nat.reduceAdd, Nat.reduceMul, Nat.reduceLeDiff, Nat.reduceEqDiff, reduceCtorEq, Int.reduceEq, Int.reduceLT, Int.reduceLE, Int.reduceAdd, Int.reduceSub]
  refine Cd_split (fun hc => ?_) (fun hc => ?_)
  · have hi' : i < l.length := by simpa using hc
    obtain ⟨b, off, cs5, e5, m5, cells, rfl, hb, hcut, y, hy, hys⟩ := hslτ.atN (j := 5) rfl (List.getElem?_eq_getElem hi')
    subst hy
    obtain ⟨b6, c6, rfl⟩ := hys.shape
    simp only [sx, argsFr, Sq, SI.wanted, AFr.ev, AFr.evV, AFr.get, AFr.box, AFr.put, AFr.setb, AV.val, callee, evArgs, aBin, aUn, oneCell, cellsOf, Value.cells, evParts, evElems, evAll, fillP, zeros, RetK, resAll, resOf, tupleOf, bnd, intOf?, AFr.keep, RefT.cells, Nat.reduceBEq, Nat.reduceAdd, Nat.reduceMul, Nat.reduceLeDiff, Nat.reduceEqDiff, reduceCtorEq, Int.reduceEq, Int.reduceLT, Int.reduceLE, Int.reduceAdd, Int.reduceSub, hb, hi', hcut]
    have hN : ∀ q ∈ N, q < τ.size := fun q hq => (heapStore hA σ.size).lt his q hq
    refine Or.inl (c17 hA (o := l[i]) hys hN (fun v7 M τ1 ho7 hm7 => ?_))
    obtain ⟨b7, c7, rfl⟩ := ho7.shape
    simp only [sx, argsFr, Sq, SI.wanted, AFr.ev, AFr.evV, AFr.get, AFr.box, AFr.put, AFr.setb, AV.val, callee, evArgs, aBin, aUn, oneCell, cellsOf, Value.cells, evParts, evElems, evAll, fillP, zeros, RetK, resAll, resOf, tupleOf, bnd, intOf?, AFr.keep, RefT.cells, Nat.reduceBEq, Nat.reduceAdd, Nat.reduceMul, Nat.reduceLeDiff, Nat.reduceEqDiff, reduceCtorEq, Int.reduceEq, Int.reduceLT, Int.reduceLE, Int.reduceAdd, Int.reduceSub]
    have hh6 := ht.low_height (by omega)
    obtain ⟨to, X, h', hput, ht', hX, hh1, hh2⟩ := putT_ok hA σ.size (entOf l[i]) ht (by omega) (by omega)
    have hil := (ins_len (entOf l[i]) es ht.srt).2
    refine Or.inl (c16 hA (heapStore hA σ.size) (D0 := []) (e := entOf l[i]) ((heapStore hA σ.size).step his hm7.drop) (by simpa [entOf] using ho7.sl) (by simp) hput (fun N2 τ2 hi2 hm2 => ?_))
    simp only [sx, argsFr, Sq, SI.wanted, AFr.ev, AFr.evV, AFr.get, AFr.box, AFr.put, AFr.setb, AV.val, callee, evArgs, aBin, aUn, oneCell, cellsOf, Value.cells, evParts, evElems, evAll, fillP, zeros, RetK, resAll, resOf, tupleOf, bnd, intOf?, AFr.keep, RefT.cells, Nat.reduceBEq, Nat.reduceAdd, Nat.reduceMul, Nat.reduceLeDiff, Nat.reduceEqDiff, reduceCtorEq, Int.reduceEq, Int.reduceLT, Int.reduceLE, Int.reduceAdd, Int.reduceSub]
    refine ⟨rfl, ih (i + 1) _ _ (by omega) ⟨H ++ X, h', to, _, N2, ?_, by omega, hi2, ht', by omega, by rw [List.length_append]; omega, (hm.trans (hm7.any N)).trans hm2⟩⟩
    simp only [sx, argsFr, Sq, SI.wanted, AFr.ev, AFr.evV, AFr.get, AFr.box, AFr.put, AFr.setb, AV.val, callee, evArgs, aBin, aUn, oneCell, cellsOf, Value.cells, evParts, evElems, evAll, fillP, zeros, RetK, resAll, resOf, tupleOf, bnd, intOf?, AFr.keep, RefT.cells, Nat.reduceBEq, Nat.reduceAdd, Nat.reduceMul, Nat.reduceLeDiff, Nat.reduceEqDiff, reduceCtorEq, Int.reduceEq, Int.reduceLT, Int.reduceLE, Int.reduceAdd, Int.reduceSub, wrap_up (show i ≤ 1000000000000000 by omega)]
  · have hil : i = l.length := by simp at hc; omega
    subst hil
    simp only [sx, argsFr, Sq, SI.wanted, AFr.ev, AFr.evV, AFr.get, AFr.box, AFr.put, AFr.setb, AV.val, callee, evArgs, aBin, aUn, oneCell, cellsOf, Value.cells, evParts, evElems, evAll, fillP, zeros, RetK, resAll, resOf, tupleOf, bnd, intOf?, AFr.keep, RefT.cells, Nat.reduceBEq, Nat.reduceAdd, Nat.reduceMul, Nat.reduceLeDiff, Nat.reduceEqDiff, reduceCtorEq, Int.reduceEq, Int.reduceLT, Int.reduceLE, Int.reduceAdd, Int.reduceSub]
    have hh6 := ht.low_height (by omega)
    have hseen := ht.seen_len (u := 8) (by omega)
    refine Or.inl (c18 hA (heapStore hA σ.size) (D0 := []) his (by simp) (ht.all hA σ.size (by omega)) (by omega) (fun v8 Nw N3 τ3 hi3 ho3 hm3 => ?_))
    obtain ⟨b8, c8, rfl⟩ := ho3.shape
    simp only [sx, argsFr, Sq, SI.wanted, AFr.ev, AFr.evV, AFr.get, AFr.box, AFr.put, AFr.setb, AV.val, callee, evArgs, aBin, aUn, oneCell, cellsOf, Value.cells, evParts, evElems, evAll, fillP, zeros, RetK, resAll, resOf, tupleOf, bnd, intOf?, AFr.keep, RefT.cells, Nat.reduceBEq, Nat.reduceAdd, Nat.reduceMul, Nat.reduceLeDiff, Nat.reduceEqDiff, reduceCtorEq, Int.reduceEq, Int.reduceLT, Int.reduceLE, Int.reduceAdd, Int.reduceSub]
    obtain ⟨M3, rfl, hh3, hlt3⟩ := hi3
    refine Or.inl (c19 hA hh3 ?_)
    simp only [sx, argsFr, Sq, SI.wanted, AFr.ev, AFr.evV, AFr.get, AFr.box, AFr.put, AFr.setb, AV.val, callee, evArgs, aBin, aUn, oneCell, cellsOf, Value.cells, evParts, evElems, evAll, fillP, zeros, RetK, resAll, resOf, tupleOf, bnd, intOf?, AFr.keep, RefT.cells, Nat.reduceBEq, Nat.reduceAdd, Nat.reduceMul, Nat.reduceLeDiff, Nat.reduceEqDiff, reduceCtorEq, Int.reduceEq, Int.reduceLT, Int.reduceLE, Int.reduceAdd, Int.reduceSub]
    have hi3 : (heapStore hA σ.size).is (Nw ++ []) (M3 ++ [σ.size]) τ3 H := ⟨M3, rfl, hh3, hlt3⟩
    have hm03 : Mv [] σ (Nw ++ (M3 ++ [σ.size])) τ3 := (hmA.trans hm).trans hm3
    have hs3 : SlR intK (M3 ++ [σ.size] ++ (Nw ++ [])) τ3 (.slice bs segs.length cs) segs := by
      have := hs.step hm03
      exact this.step ⟨Nat.le_refl _, fun _ _ _ => rfl, fun q _ hq => by simp only [List.mem_append] at hq ⊢; grind⟩
    have hDw : ∀ q ∈ Nw ++ [], q < τ3.size := by simpa using ho3.lt
    obtain ⟨to, nm, X, hmv, hXl, hnm, htm, hMvd⟩ := ht.move hA σ.size segs (by omega) (by omega)
    refine Or.inl (c20 hA (heapStore hA σ.size) (D0 := Nw ++ []) hi3 hs3 hDw (fun e5 s5 N5 τ5 hmv5 _ _ _ => by rw [hmv] at hmv5; simp at hmv5) (fun to5 n5 s5 N5 τ5 hmv5 hi5 hm5 => ?_))
    rw [hmv] at hmv5
    simp only [Prod.mk.injEq, Except.ok.injEq] at hmv5
    obtain ⟨⟨rfl, rfl⟩, rfl⟩ := hmv5
    simp only [sx, argsFr, Sq, SI.wanted, AFr.ev, AFr.evV, AFr.get, AFr.box, AFr.put, AFr.setb, AV.val, callee, evArgs, aBin, aUn, oneCell, cellsOf, Value.cells, evParts, evElems, evAll, fillP, zeros, RetK, resAll, resOf, tupleOf, bnd, intOf?, AFr.keep, RefT.cells, Nat.reduceBEq, Nat.reduceAdd, Nat.reduceMul, Nat.reduceLeDiff, Nat.reduceEqDiff, reduceCtorEq, Int.reduceEq, Int.reduceLT, Int.reduceLE, Int.reduceAdd, Int.reduceSub]
    have ho5 := ho3.step (hm5.post [])
    have hD5 : ∀ q ∈ Nw ++ [], q < τ5.size := fun q hq => Nat.lt_of_lt_of_le (hDw q hq) hm5.size
    have hseen2 := htm.seen_len (u := 8) (by omega)
    refine Or.inl (c18 hA (heapStore hA σ.size) (D0 := Nw ++ []) hi5 hD5 (htm.all hA σ.size (by omega)) (by omega) (fun v9 Nn N6 τ6 hi6 ho6 hm6 => ?_))
    obtain ⟨b9, c9, rfl⟩ := ho6.shape
    simp only [sx, argsFr, Sq, SI.wanted, AFr.ev, AFr.evV, AFr.get, AFr.box, AFr.put, AFr.setb, AV.val, callee, evArgs, aBin, aUn, oneCell, cellsOf, Value.cells, evParts, evElems, evAll, fillP, zeros, RetK, resAll, resOf, tupleOf, bnd, intOf?, AFr.keep, RefT.cells, Nat.reduceBEq, Nat.reduceAdd, Nat.reduceMul, Nat.reduceLeDiff, Nat.reduceEqDiff, reduceCtorEq, Int.reduceEq, Int.reduceLT, Int.reduceLE, Int.reduceAdd, Int.reduceSub]
    obtain ⟨M6, rfl, hh6', hlt6⟩ := hi6
    have how := (ho5.step (hm6.post [])).sl
    have hon := ho6.sl
    have hs6 : SlR intK (Nn ++ (M6 ++ [σ.size])) τ6 (.slice bs segs.length cs) segs := by
      have h1 : SlR intK (M3 ++ [σ.size]) τ3 (.slice bs segs.length cs) segs := hs3.step ⟨Nat.le_refl _, fun _ _ _ => rfl, fun q _ hq => by simp only [List.mem_append] at hq ⊢; grind⟩
      exact (h1.step hm5).step hm6
    have hlen : (seen (H ++ X) 8 to).length = (seen H 8 root).length := by
      have : ∀ {a b n}, Mvd segs a b n → b.length = a.length := by
        intro a b n h
        induction h with
        | nil => rfl
        | old _ _ ih => simp [ih]
        | new _ _ _ _ _ _ ih => simp [ih]
      exact this hMvd
    generalize hW : seen H 8 root = was at *
    generalize hN : seen (H ++ X) 8 to = now at *
    have hw1 : IntKind.i64.wrap ((H.length : Int) + (nm : Int)) = ((H.length + nm : Nat) : Int) := by rw [wrap_in (by omega) (by omega)]; omega
    have q1 : ((was.length : Nat) : Int) = ((now.length : Nat) : Int) := by omega
    have q2 : ¬ (((was.length : Nat) : Int) < 1) := by omega
    have q3 : ¬ (((now.length : Nat) : Int) < 1) := by omega
    have q4 : (((H ++ X).length : Nat) : Int) = ((H.length + nm : Nat) : Int) := by rw [List.length_append, hXl]
    simp only [sx, argsFr, Sq, SI.wanted, AFr.ev, AFr.evV, AFr.get, AFr.box, AFr.put, AFr.setb, AV.val, callee, evArgs, aBin, aUn, oneCell, cellsOf, Value.cells, evParts, evElems, evAll, fillP, zeros, RetK, resAll, resOf, tupleOf, bnd, intOf?, AFr.keep, RefT.cells, Nat.reduceBEq, Nat.reduceAdd, Nat.reduceMul, Nat.reduceLeDiff, Nat.reduceEqDiff, reduceCtorEq, Int.reduceEq, Int.reduceLT, Int.reduceLE, Int.reduceAdd, Int.reduceSub, q1, q2, q3]
    refine Or.inl (c19 hA hh6' ?_)
    simp only [sx, argsFr, Sq, SI.wanted, AFr.ev, AFr.evV, AFr.get, AFr.box, AFr.put, AFr.setb, AV.val, callee, evArgs, aBin, aUn, oneCell, cellsOf, Value.cells, evParts, evElems, evAll, fillP, zeros, RetK, resAll, resOf, tupleOf, bnd, intOf?, AFr.keep, RefT.cells, Nat.reduceBEq, Nat.reduceAdd, Nat.reduceMul, Nat.reduceLeDiff, Nat.reduceEqDiff, reduceCtorEq, Int.reduceEq, Int.reduceLT, Int.reduceLE, Int.reduceAdd, Int.reduceSub, hw1, q4]
    have hlw : was.length ≤ 1000 := by omega
    refine Lp_ind (fun i => now.length - i) (fun i f τ => ∃ n : Nat, τ = τ6 ∧ f.keep [1, 12, 16, 18, 110, 111] [] =
        some ⟨[(1, .v (.slice bs segs.length cs)), (12, .v (.slice b8 was.length c8)), (16, .v (.int .i64 n)), (18, .v (.slice b9 now.length c9)), (110, .v (.int .i64 now.length)), (111, .v (.int .i64 i))], []⟩ ∧
      i ≤ now.length ∧ Mvd segs (was.drop i) (now.drop i) n ∧ n ≤ 20000) ?_ 0 _ _ ⟨nm, rfl, rfl, Nat.zero_le _, hMvd, by omega⟩
    clear ih hD5 ho5 hm5 hm6 hMvd
    rintro i f τ ⟨n, rfl, hkp, hi, hMv, hn2⟩ ih
    rw [St_seq, St_keep hkp]
    clear hkp
    simp only [sx, argsFr, Sq, SI.wanted, AFr.ev, AFr.evV, AFr.get, AFr.box, AFr.put, AFr.setb, AV.val, callee, evArgs, aBin, aUn, oneCell, cellsOf, Value.cells, evParts, evElems, evAll, fillP, zeros, RetK, resAll, resOf, tupleOf, bnd, intOf?, AFr.keep, RefT.cells, Nat.reduceBEq, Nat.reduceAdd, Nat.reduceMul, Nat.reduceLeDiff, Nat.reduceEqDiff, reduceCtorEq, Int.reduceEq, Int.reduceLT, Int.reduceLE, Int.reduceAdd, Int.reduceSub]
    refine Cd_split (fun hc => ?_) (fun hc => ?_)
    · have hi' : i < now.length := by simpa using hc
      have hj' : i < was.length := by omega
      have hMv2 : ∃ n' : Nat, Mvd segs (was.drop (i + 1)) (now.drop (i + 1)) n' ∧ now[i].deep = was[i].deep ∧ now[i].node.leaf = was[i].node.leaf ∧ now[i].node.es = was[i].node.es ∧ now[i].node.ks.map (·.low) = was[i].node.ks.map (·.low) ∧
          (now[i].ref = was[i].ref → now[i].ref.seg ∉ segs ∧ n = n') ∧ (now[i].ref ≠ was[i].ref → n = n' + 1) := by
        rw [List.drop_eq_getElem_cons hi', List.drop_eq_getElem_cons hj'] at hMv
        generalize hx : was[i] = x at hMv
        generalize hy : now[i] = y at hMv
        cases hMv with
        | old h t => exact ⟨_, t, rfl, rfl, rfl, rfl, fun _ => ⟨h, rfl⟩, fun h => absurd rfl h⟩
        | new h1 h2 h3 h4 h5 t => exact ⟨_, t, h1, h2, h3, h4, fun h => absurd h h5, fun _ => rfl⟩
      obtain ⟨n', hMv', r1, r2, r3, r4, r5, r6⟩ := hMv2
      have r7 : now[i].node.ks.length = was[i].node.ks.length := by have := congrArg List.length r4; simpa using this
      obtain ⟨p1, o1, cs1, e1, m1, cells1, rfl, hb1, ⟨ve1, vk1, rfl, hes1, hks1⟩, hc1, hN1⟩ := how.atE (j := 8) rfl (List.getElem?_eq_getElem hj')
      obtain ⟨p2, o2, cs2, e2, m2, cells2, rfl, hb2, ⟨ve2, vk2, rfl, hes2, hks2⟩, hc2, hN2⟩ := hon.atE (j := 8) rfl (List.getElem?_eq_getElem hi')
      obtain ⟨b11, c11, rfl⟩ := hes1.shape
      obtain ⟨b12, c12, rfl⟩ := hks1.shape
      obtain ⟨b13, c13, rfl⟩ := hes2.shape
      obtain ⟨b14, c14, rfl⟩ := hks2.shape
      have u1 := hN1 1 4 (by decide)
      have u2 := hN2 1 4 (by decide)
      simp only [List.drop_succ_cons, List.drop_zero, List.take_succ_cons, List.take_zero] at u1 u2
      have u3 : cut none cs1 (o1 + i * 8) = _ := hc1 0 _ rfl
      have u4 : cut none cs2 (o2 + i * 8) = _ := hc2 0 _ rfl
      have u5 := hc1 5 _ rfl
      have u6 := hc2 5 _ rfl
      have u7 : cut none cs1 (o1 + i * 8 + 5 + 1) = _ := hc1 6 _ rfl
      have u8 : cut none cs2 (o2 + i * 8 + 5 + 1) = _ := hc2 6 _ rfl
      have u9 : cut none cs1 (o1 + i * 8 + 5 + 2) = _ := hc1 7 _ rfl
      have u10 : cut none cs2 (o2 + i * 8 + 5 + 2) = _ := hc2 7 _ rfl
      have u11 : cut none cs2 (o2 + i * 8 + 1 + 1) = _ := hc2 2 _ rfl
      simp only [sx, argsFr, Sq, SI.wanted, AFr.ev, AFr.evV, AFr.get, AFr.box, AFr.put, AFr.setb, AV.val, callee, evArgs, aBin, aUn, oneCell, cellsOf, Value.cells, evParts, evElems, evAll, fillP, zeros, RetK, resAll, resOf, tupleOf, bnd, intOf?, AFr.keep, RefT.cells, Nat.reduceBEq, Nat.reduceAdd, Nat.reduceMul, Nat.reduceLeDiff, Nat.reduceEqDiff, reduceCtorEq, Int.reduceEq, Int.reduceLT, Int.reduceLE, Int.reduceAdd, Int.reduceSub, hi', hj', hb1, hb2, u1, u2]
      refine Be_ref hA now[i].ref was[i].ref (.inl rfl) ?_
      by_cases he : now[i].ref = was[i].ref
      · obtain ⟨r8, hnn⟩ := r5 he
        have r9 : decide (was[i].ref.seg ∈ segs) = false := by rw [← he]; simpa using r8
        simp only [sx, argsFr, Sq, SI.wanted, AFr.ev, AFr.evV, AFr.get, AFr.box, AFr.put, AFr.setb, AV.val, callee, evArgs, aBin, aUn, oneCell, cellsOf, Value.cells, evParts, evElems, evAll, fillP, zeros, RetK, resAll, resOf, tupleOf, bnd, intOf?, AFr.keep, RefT.cells, Nat.reduceBEq, Nat.reduceAdd, Nat.reduceMul, Nat.reduceLeDiff, Nat.reduceEqDiff, reduceCtorEq, Int.reduceEq, Int.reduceLT, Int.reduceLE, Int.reduceAdd, Int.reduceSub, he, hi', hj', hb1, hb2, u11]
        refine ⟨rfl, Or.inl (c21 hA hs6 ?_)⟩
        simp only [sx, argsFr, Sq, SI.wanted, AFr.ev, AFr.evV, AFr.get, AFr.box, AFr.put, AFr.setb, AV.val, callee, evArgs, aBin, aUn, oneCell, cellsOf, Value.cells, evParts, evElems, evAll, fillP, zeros, RetK, resAll, resOf, tupleOf, bnd, intOf?, AFr.keep, RefT.cells, Nat.reduceBEq, Nat.reduceAdd, Nat.reduceMul, Nat.reduceLeDiff, Nat.reduceEqDiff, reduceCtorEq, Int.reduceEq, Int.reduceLT, Int.reduceLE, Int.reduceAdd, Int.reduceSub, r9, hi', hj', hb1, hb2, u3, u4, u5, u6, u7, u8, u9, u10, r1, r2, aEq]
        refine Or.inl (c22 hA hes2 hes1 ?_)
        simp only [sx, argsFr, Sq, SI.wanted, AFr.ev, AFr.evV, AFr.get, AFr.box, AFr.put, AFr.setb, AV.val, callee, evArgs, aBin, aUn, oneCell, cellsOf, Value.cells, evParts, evElems, evAll, fillP, zeros, RetK, resAll, resOf, tupleOf, bnd, intOf?, AFr.keep, RefT.cells, Nat.reduceBEq, Nat.reduceAdd, Nat.reduceMul, Nat.reduceLeDiff, Nat.reduceEqDiff, reduceCtorEq, Int.reduceEq, Int.reduceLT, Int.reduceLE, Int.reduceAdd, Int.reduceSub, r3, r7, hi', hj', hb1, hb2, u9, u10]
        refine ⟨rfl, ?_⟩
        simp only [hnn]
        refine Lp_ind (fun j => now[i].node.ks.length - j) (fun j f τ1 => τ1 = τ ∧ f.keep [1, 12, 16, 18, 20, 110, 111, 207, 208] [] =
            some ⟨[(1, .v (.slice bs segs.length cs)), (12, .v (.slice (some ⟨p1, o1, none⟩) was.length c8)), (16, .v (.int .i64 n')), (18, .v (.slice (some ⟨p2, o2, none⟩) now.length c9)), (20, .v (.int .i64 i)), (110, .v (.int .i64 now.length)), (111, .v (.int .i64 i)),
              (207, .v (.int .i64 now[i].node.ks.length)), (208, .v (.int .i64 j))], []⟩ ∧ j ≤ now[i].node.ks.length) ?_ 0 _ _ ⟨rfl, by simp only [sx, argsFr, Sq, SI.wanted, AFr.ev, AFr.evV, AFr.get, AFr.box, AFr.put, AFr.setb, AV.val, callee, evArgs, aBin, aUn, oneCell, cellsOf, Value.cells, evParts, evElems, evAll, fillP, zeros, RetK, resAll, resOf, tupleOf, bnd, intOf?, AFr.keep, RefT.cells, Nat.reduceBEq, Nat.reduceAdd, Nat.reduceMul, Nat.reduceLeDiff, Nat.reduceEqDiff, reduceCtorEq, Int.reduceEq, Int.reduceLT, Int.reduceLE, Int.reduceAdd, Int.reduceSub, r7]; rfl, Nat.zero_le _⟩
        rintro j f τ1 ⟨rfl, hkp, hj⟩ ihk
        rw [St_seq, St_keep hkp]
        clear hkp
        simp only [sx, argsFr, Sq, SI.wanted, AFr.ev, AFr.evV, AFr.get, AFr.box, AFr.put, AFr.setb, AV.val, callee, evArgs, aBin, aUn, oneCell, cellsOf, Value.cells, evParts, evElems, evAll, fillP, zeros, RetK, resAll, resOf, tupleOf, bnd, intOf?, AFr.keep, RefT.cells, Nat.reduceBEq, Nat.reduceAdd, Nat.reduceMul, Nat.reduceLeDiff, Nat.reduceEqDiff, reduceCtorEq, Int.reduceEq, Int.reduceLT, Int.reduceLE, Int.reduceAdd, Int.reduceSub]
        have hmk := hks2.bound
        unfold maxN at hmk
        refine Cd_split (fun hc3 => ?_) (fun hc3 => ?_)
        · have hk1 : j < now[i].node.ks.length := by simpa using hc3
          have hk2 : j < was[i].node.ks.length := by omega
          obtain ⟨p3, o3, cs3, e3, m3, cells3, rfl, hb3, rfl, hc13, _⟩ := hks2.atE (j := 5) rfl (List.getElem?_eq_getElem hk1)
          obtain ⟨p4, o4, cs4, e4, m4, cells4, rfl, hb4, rfl, hc14, _⟩ := hks1.atE (j := 5) rfl (List.getElem?_eq_getElem hk2)
          have v1 : cut none cs3 (o3 + j * 5) = _ := hc13 0 _ rfl
          have v2 : cut none cs4 (o4 + j * 5) = _ := hc14 0 _ rfl
          have hlow : now[i].node.ks[j].low = was[i].node.ks[j].low := by
            have h1 : (now[i].node.ks.map (·.low))[j]? = some now[i].node.ks[j].low := by rw [List.getElem?_map, List.getElem?_eq_getElem hk1]; rfl
            rw [r4, List.getElem?_map, List.getElem?_eq_getElem hk2] at h1
            exact (Option.some.inj h1).symm
          simp only [sx, argsFr, Sq, SI.wanted, AFr.ev, AFr.evV, AFr.get, AFr.box, AFr.put, AFr.setb, AV.val, callee, evArgs, aBin, aUn, oneCell, cellsOf, Value.cells, evParts, evElems, evAll, fillP, zeros, RetK, resAll, resOf, tupleOf, bnd, intOf?, AFr.keep, RefT.cells, Nat.reduceBEq, Nat.reduceAdd, Nat.reduceMul, Nat.reduceLeDiff, Nat.reduceEqDiff, reduceCtorEq, Int.reduceEq, Int.reduceLT, Int.reduceLE, Int.reduceAdd, Int.reduceSub, hi', hj', hk1, hk2, hb1, hb2, hb3, hb4, u9, u10, v1, v2, hlow]
          refine ⟨rfl, ihk (j + 1) _ _ (by omega) ⟨rfl, ?_, by omega⟩⟩
          simp only [sx, argsFr, Sq, SI.wanted, AFr.ev, AFr.evV, AFr.get, AFr.box, AFr.put, AFr.setb, AV.val, callee, evArgs, aBin, aUn, oneCell, cellsOf, Value.cells, evParts, evElems, evAll, fillP, zeros, RetK, resAll, resOf, tupleOf, bnd, intOf?, AFr.keep, RefT.cells, Nat.reduceBEq, Nat.reduceAdd, Nat.reduceMul, Nat.reduceLeDiff, Nat.reduceEqDiff, reduceCtorEq, Int.reduceEq, Int.reduceLT, Int.reduceLE, Int.reduceAdd, Int.reduceSub, wrap_up (show j ≤ 1000000000000000 by omega)]
        · simp only [sx, argsFr, Sq, SI.wanted, AFr.ev, AFr.evV, AFr.get, AFr.box, AFr.put, AFr.setb, AV.val, callee, evArgs, aBin, aUn, oneCell, cellsOf, Value.cells, evParts, evElems, evAll, fillP, zeros, RetK, resAll, resOf, tupleOf, bnd, intOf?, AFr.keep, RefT.cells, Nat.reduceBEq, Nat.reduceAdd, Nat.reduceMul, Nat.reduceLeDiff, Nat.reduceEqDiff, reduceCtorEq, Int.reduceEq, Int.reduceLT, Int.reduceLE, Int.reduceAdd, Int.reduceSub]
          refine ih (i + 1) _ _ (by omega) ⟨n', rfl, ?_, by omega, hMv', by omega⟩
          simp only [sx, argsFr, Sq, SI.wanted, AFr.ev, AFr.evV, AFr.get, AFr.box, AFr.put, AFr.setb, AV.val, callee, evArgs, aBin, aUn, oneCell, cellsOf, Value.cells, evParts, evElems, evAll, fillP, zeros, RetK, resAll, resOf, tupleOf, bnd, intOf?, AFr.keep, RefT.cells, Nat.reduceBEq, Nat.reduceAdd, Nat.reduceMul, Nat.reduceLeDiff, Nat.reduceEqDiff, reduceCtorEq, Int.reduceEq, Int.reduceLT, Int.reduceLE, Int.reduceAdd, Int.reduceSub, wrap_up (show i ≤ 1000000000000000 by omega)]
      · have r9 := r6 he
        simp only [sx, argsFr, Sq, SI.wanted, AFr.ev, AFr.evV, AFr.get, AFr.box, AFr.put, AFr.setb, AV.val, callee, evArgs, aBin, aUn, oneCell, cellsOf, Value.cells, evParts, evElems, evAll, fillP, zeros, RetK, resAll, resOf, tupleOf, bnd, intOf?, AFr.keep, RefT.cells, Nat.reduceBEq, Nat.reduceAdd, Nat.reduceMul, Nat.reduceLeDiff, Nat.reduceEqDiff, reduceCtorEq, Int.reduceEq, Int.reduceLT, Int.reduceLE, Int.reduceAdd, Int.reduceSub, he, hi', hj', hb1, hb2, u3, u4, u5, u6, u7, u8, u9, u10, r1, r2, aEq]
        refine ⟨rfl, ?_⟩
        have hw9 : IntKind.i64.wrap ((n : Int) - 1) = (n' : Int) := by rw [wrap_in (by omega) (by omega)]; omega
        refine Or.inl (c22 hA hes2 hes1 ?_)
        simp only [sx, argsFr, Sq, SI.wanted, AFr.ev, AFr.evV, AFr.get, AFr.box, AFr.put, AFr.setb, AV.val, callee, evArgs, aBin, aUn, oneCell, cellsOf, Value.cells, evParts, evElems, evAll, fillP, zeros, RetK, resAll, resOf, tupleOf, bnd, intOf?, AFr.keep, RefT.cells, Nat.reduceBEq, Nat.reduceAdd, Nat.reduceMul, Nat.reduceLeDiff, Nat.reduceEqDiff, reduceCtorEq, Int.reduceEq, Int.reduceLT, Int.reduceLE, Int.reduceAdd, Int.reduceSub, r3, r7, hi', hj', hb1, hb2, u9, u10]
        refine ⟨rfl, ?_⟩
        simp only [hw9]
        refine Lp_ind (fun j => now[i].node.ks.length - j) (fun j f τ1 => τ1 = τ ∧ f.keep [1, 12, 16, 18, 20, 110, 111, 207, 208] [] =
            some ⟨[(1, .v (.slice bs segs.length cs)), (12, .v (.slice (some ⟨p1, o1, none⟩) was.length c8)), (16, .v (.int .i64 n')), (18, .v (.slice (some ⟨p2, o2, none⟩) now.length c9)), (20, .v (.int .i64 i)), (110, .v (.int .i64 now.length)), (111, .v (.int .i64 i)),
              (207, .v (.int .i64 now[i].node.ks.length)), (208, .v (.int .i64 j))], []⟩ ∧ j ≤ now[i].node.ks.length) ?_ 0 _ _ ⟨rfl, by simp only [sx, argsFr, Sq, SI.wanted, AFr.ev, AFr.evV, AFr.get, AFr.box, AFr.put, AFr.setb, AV.val, callee, evArgs, aBin, aUn, oneCell, cellsOf, Value.cells, evParts, evElems, evAll, fillP, zeros, RetK, resAll, resOf, tupleOf, bnd, intOf?, AFr.keep, RefT.cells, Nat.reduceBEq, Nat.reduceAdd, Nat.reduceMul, Nat.reduceLeDiff, Nat.reduceEqDiff, reduceCtorEq, Int.reduceEq, Int.reduceLT, Int.reduceLE, Int.reduceAdd, Int.reduceSub, r7]; rfl, Nat.zero_le _⟩
        rintro j f τ1 ⟨rfl, hkp, hj⟩ ihk
        rw [St_seq, St_keep hkp]
        clear hkp
        simp only [sx, argsFr, Sq, SI.wanted, AFr.ev, AFr.evV, AFr.get, AFr.box, AFr.put, AFr.setb, AV.val, callee, evArgs, aBin, aUn, oneCell, cellsOf, Value.cells, evParts, evElems, evAll, fillP, zeros, RetK, resAll, resOf, tupleOf, bnd, intOf?, AFr.keep, RefT.cells, Nat.reduceBEq, Nat.reduceAdd, Nat.reduceMul, Nat.reduceLeDiff, Nat.reduceEqDiff, reduceCtorEq, Int.reduceEq, Int.reduceLT, Int.reduceLE, Int.reduceAdd, Int.reduceSub]
        have hmk := hks2.bound
        unfold maxN at hmk
        refine Cd_split (fun hc3 => ?_) (fun hc3 => ?_)
        · have hk1 : j < now[i].node.ks.length := by simpa using hc3
          have hk2 : j < was[i].node.ks.length := by omega
          obtain ⟨p3, o3, cs3, e3, m3, cells3, rfl, hb3, rfl, hc13, _⟩ := hks2.atE (j := 5) rfl (List.getElem?_eq_getElem hk1)
          obtain ⟨p4, o4, cs4, e4, m4, cells4, rfl, hb4, rfl, hc14, _⟩ := hks1.atE (j := 5) rfl (List.getElem?_eq_getElem hk2)
          have v1 : cut none cs3 (o3 + j * 5) = _ := hc13 0 _ rfl
          have v2 : cut none cs4 (o4 + j * 5) = _ := hc14 0 _ rfl
          have hlow : now[i].node.ks[j].low = was[i].node.ks[j].low := by
            have h1 : (now[i].node.ks.map (·.low))[j]? = some now[i].node.ks[j].low := by rw [List.getElem?_map, List.getElem?_eq_getElem hk1]; rfl
            rw [r4, List.getElem?_map, List.getElem?_eq_getElem hk2] at h1
            exact (Option.some.inj h1).symm
          simp only [sx, argsFr, Sq, SI.wanted, AFr.ev, AFr.evV, AFr.get, AFr.box, AFr.put, AFr.setb, AV.val, callee, evArgs, aBin, aUn, oneCell, cellsOf, Value.cells, evParts, evElems, evAll, fillP, zeros, RetK, resAll, resOf, tupleOf, bnd, intOf?, AFr.keep, RefT.cells, Nat.reduceBEq, Nat.reduceAdd, Nat.reduceMul, Nat.reduceLeDiff, Nat.reduceEqDiff, reduceCtorEq, Int.reduceEq, Int.reduceLT, Int.reduceLE, Int.reduceAdd, Int.reduceSub, hi', hj', hk1, hk2, hb1, hb2, hb3, hb4, u9, u10, v1, v2, hlow]
          refine ⟨rfl, ihk (j + 1) _ _ (by omega) ⟨rfl, ?_, by omega⟩⟩
          simp only [sx, argsFr, Sq, SI.wanted, AFr.ev, AFr.evV, AFr.get, AFr.box, AFr.put, AFr.setb, AV.val, callee, evArgs, aBin, aUn, oneCell, cellsOf, Value.cells, evParts, evElems, evAll, fillP, zeros, RetK, resAll, resOf, tupleOf, bnd, intOf?, AFr.keep, RefT.cells, Nat.reduceBEq, Nat.reduceAdd, Nat.reduceMul, Nat.reduceLeDiff, Nat.reduceEqDiff, reduceCtorEq, Int.reduceEq, Int.reduceLT, Int.reduceLE, Int.reduceAdd, Int.reduceSub, wrap_up (show j ≤ 1000000000000000 by omega)]
        · simp only [sx, argsFr, Sq, SI.wanted, AFr.ev, AFr.evV, AFr.get, AFr.box, AFr.put, AFr.setb, AV.val, callee, evArgs, aBin, aUn, oneCell, cellsOf, Value.cells, evParts, evElems, evAll, fillP, zeros, RetK, resAll, resOf, tupleOf, bnd, intOf?, AFr.keep, RefT.cells, Nat.reduceBEq, Nat.reduceAdd, Nat.reduceMul, Nat.reduceLeDiff, Nat.reduceEqDiff, reduceCtorEq, Int.reduceEq, Int.reduceLT, Int.reduceLE, Int.reduceAdd, Int.reduceSub]
          refine ih (i + 1) _ _ (by omega) ⟨n', rfl, ?_, by omega, hMv', by omega⟩
          simp only [sx, argsFr, Sq, SI.wanted, AFr.ev, AFr.evV, AFr.get, AFr.box, AFr.put, AFr.setb, AV.val, callee, evArgs, aBin, aUn, oneCell, cellsOf, Value.cells, evParts, evElems, evAll, fillP, zeros, RetK, resAll, resOf, tupleOf, bnd, intOf?, AFr.keep, RefT.cells, Nat.reduceBEq, Nat.reduceAdd, Nat.reduceMul, Nat.reduceLeDiff, Nat.reduceEqDiff, reduceCtorEq, Int.reduceEq, Int.reduceLT, Int.reduceLE, Int.reduceAdd, Int.reduceSub, wrap_up (show i ≤ 1000000000000000 by omega)]
    · simp only [sx, argsFr, Sq, SI.wanted, AFr.ev, AFr.evV, AFr.get, AFr.box, AFr.put, AFr.setb, AV.val, callee, evArgs, aBin, aUn, oneCell, cellsOf, Value.cells, evParts, evElems, evAll, fillP, zeros, RetK, resAll, resOf, tupleOf, bnd, intOf?, AFr.keep, RefT.cells, Nat.reduceBEq, Nat.reduceAdd, Nat.reduceMul, Nat.reduceLeDiff, Nat.reduceEqDiff, reduceCtorEq, Int.reduceEq, Int.reduceLT, Int.reduceLE, Int.reduceAdd, Int.reduceSub]
      have hil : i = now.length := by simp at hc; omega
      subst hil
      rw [List.drop_length, List.drop_eq_nil_of_le (by omega)] at hMv
      cases hMv
      rfl
end
end Go.Proofs.Ytbldkkabkijpgaa

namespace Go.Proofs.Ytbldkkabkijpgaa
open Go.Am

section
variable {P : Program} {w : World}

/-- A field that is no aggregate: its cell. -/
theorem part_one {t : TypeId} (ha : tagg P t = some false) {cs : Array Value} {off : Nat} {v : Value} (hv : cs[off]? = some v) : (part t cs off).run P w = .ok v w := by
  have h : (isAgg t).run P w = .ok false w := run_isAgg' ha w
  simp [part, h, hv]

theorem part_agg {t : TypeId} {n : Nat} (ha : tagg P t = some true) (hn : tsize P t = some n) {cs : Array Value} {off : Nat} : (part t cs off).run P w = .ok (.agg (cs.extract off (off + n))) w := by
  have h : (isAgg t).run P w = .ok true w := run_isAgg' ha w
  have h2 : (sizeOf t).run P w = .ok n w := run_sizeOf' hn w
  simp [part, h, h2]

theorem eqf_one {d : Nat} {xs ys : Array Value} {f : Field} {fs : List Field} {a b : Value} {r s : Bool} (hn : (f.name == "_") = false) (ha : (part f.type xs f.offset).run P w = .ok a w) (hb : (part f.type ys f.offset).run P w = .ok b w)
    (he : (Op.equalIn d f.type a b).run P w = .ok r w) (hr : (Op.eqFields d xs ys fs).run P w = .ok s w) : (Op.eqFields d xs ys (f :: fs)).run P w = .ok (r && s) w := by
  have hn' : f.name ≠ "_" := by simpa using hn
  rw [Op.eqFields]
  simp only [if_pos hn', Sem.run_bind, ha, hb, he, Result.andThen_ok]
  cases r
  · simp
  · simpa using hr

theorem eqf_none {d : Nat} {xs ys : Array Value} : (Op.eqFields d xs ys []).run P w = .ok true w := by simp [Op.eqFields]

/-- == of values without addresses, from what equalIn tells. -/
theorem eqv_of {ty : TypeId} {xs ys : Array Value} {t : Bool} (hg : P.eqGuardType P.depth ty = false) (hx : xs.toList.all (fun v => flat v) = true) (hy : ys.toList.all (fun v => flat v) = true) (he : ∀ w, (Op.equalIn 10000 ty (.agg xs) (.agg ys)).run P w = .ok t w) :
    ∀ (ι : Inj) (a' b' : Value) (w : World) (op : BinOp) (x y : Operand), VR ι (.agg xs) a' → VR ι (.agg ys) b' → (op = .eql ∨ op = .neq) →
      (do eqGuard op ty x y a' b'; binOp op ty a' b' : Sem Value).run P w = .ok (.bool (if op = .eql then t else !t)) w := by
  have key : ∀ {ι : Inj} {zs : Array Value} {a' : Value}, zs.toList.all (fun v => flat v) = true → VR ι (.agg zs) a' → a' = .agg zs := by
    intro ι zs a' hz h
    obtain ⟨cs', rfl, hl, _⟩ := vr_agg h
    have : ∀ {l l' : List Value}, l.all (fun v => flat v) = true → VRL ι l l' → l' = l := by
      intro l
      induction l with
      | nil => intro l' _ h; cases h; rfl
      | cons v l ih =>
        intro l' hf h
        cases h with
        | cons hv hl =>
          simp only [List.all_cons, Bool.and_eq_true] at hf
          rw [ih hf.2 hl]
          congr 1
          have hfv := hf.1
          cases hv <;> first | rfl | simp [flat] at hfv
    rw [Array.toList_inj.1 (this hz hl)]
  intro ι a' b' w op x y ha hb hop
  rw [key hx ha, key hy hb]
  simp only [Sem.run_bind, run_eqGuard_agg (P := P) w op ty x y xs ys hg, Result.andThen_ok]
  rcases hop with rfl | rfl
  · rw [run_eql_struct, he]; rfl
  · rw [run_neq_struct, he]; rfl
end

theorem fields_of {P : Program} {t : TypeId} {fs : Array Field} (hu : P.underlying t = some (.struct fs)) : P.fieldsOf t = fs := by simp [Program.fieldsOf, hu]

theorem ag26 : tagg Try.prog 26 = some false := by kernel_rfl
theorem ag3 : tagg Try.prog 3 = some false := by kernel_rfl
theorem ag9 : tagg Try.prog 9 = some false := by kernel_rfl
theorem ag28 : tagg Try.prog 28 = some true := by kernel_rfl
theorem sz28 : tsize Try.prog 28 = some 4 := by kernel_rfl

theorem equalIn28 (w : World) (a b : RefT) (d : Nat) : (Op.equalIn (d + 2) 28 (.agg a.cells.toArray) (.agg b.cells.toArray)).run Try.prog w = .ok (decide (a = b)) w := by
  have hu := Try.underlying28
  have hf := fields_of hu
  rw [run_equalIn_agg w (d + 1) 28 _ _ (by rw [hf]; exact hu) (by kernel_rfl), hf]
  have e : decide (a = b) = ((a.key == b.key) && ((a.seg == b.seg) && ((a.off == b.off) && ((a.len == b.len) && true)))) := by
    rw [Bool.eq_iff_iff]
    cases a; cases b
    simp
  rw [e]
  refine eqf_one (by rfl) (part_one ag26 rfl) (part_one ag26 rfl) (run_equalIn_int w _ _ _ _ _ _ Try.underlying26) ?_
  refine eqf_one (by rfl) (part_one ag3 rfl) (part_one ag3 rfl) (run_equalIn_int w _ _ _ _ _ _ Try.underlying3) ?_
  refine eqf_one (by rfl) (part_one ag3 rfl) (part_one ag3 rfl) (run_equalIn_int w _ _ _ _ _ _ Try.underlying3) ?_
  refine eqf_one (by rfl) (part_one ag3 rfl) (part_one ag3 rfl) (run_equalIn_int w _ _ _ _ _ _ Try.underlying3) ?_
  exact eqf_none

theorem bytes_dec (a b : ByteArray) : (a.toList == b.toList) = decide (a = b) := by
  by_cases h : a = b
  · subst h; simp
  · have : a.toList ≠ b.toList := fun e => h (toList_inj e)
    simp [h, this]

theorem equalIn128 (w : World) (a b : Ver) (d : Nat) : (Op.equalIn (d + 2) 128 (.agg #[.int .i64 a.no, .string a.value, .string a.note]) (.agg #[.int .i64 b.no, .string b.value, .string b.note])).run Try.prog w = .ok (decide (a = b)) w := by
  have hu := Try.underlying128
  have hf := fields_of hu
  rw [run_equalIn_agg w (d + 1) 128 _ _ (by rw [hf]; exact hu) (by kernel_rfl), hf]
  have e : decide (a = b) = ((a.no == b.no) && ((a.value.toList == b.value.toList) && ((a.note.toList == b.note.toList) && true))) := by
    rw [bytes_dec, bytes_dec, Bool.eq_iff_iff]
    cases a; cases b
    simp
  rw [e]
  refine eqf_one (by rfl) (part_one ag3 rfl) (part_one ag3 rfl) (run_equalIn_int w _ _ _ _ _ _ Try.underlying3) ?_
  refine eqf_one (by rfl) (part_one ag9 rfl) (part_one ag9 rfl) (run_equalIn_string w _ _ _ _ Try.underlying9) ?_
  refine eqf_one (by rfl) (part_one ag9 rfl) (part_one ag9 rfl) (run_equalIn_string w _ _ _ _ Try.underlying9) ?_
  exact eqf_none

theorem equalIn55 (w : World) (a b : KidT) (d : Nat) : (Op.equalIn (d + 3) 55 (.agg #[.string a.low, .int .u64 a.ref.key, .int .i64 a.ref.seg, .int .i64 a.ref.off, .int .i64 a.ref.len])
    (.agg #[.string b.low, .int .u64 b.ref.key, .int .i64 b.ref.seg, .int .i64 b.ref.off, .int .i64 b.ref.len])).run Try.prog w = .ok (decide (a = b)) w := by
  have hu := Try.underlying55
  have hf := fields_of hu
  rw [run_equalIn_agg w (d + 2) 55 _ _ (by rw [hf]; exact hu) (by kernel_rfl), hf]
  have e : decide (a = b) = ((a.low.toList == b.low.toList) && (decide (a.ref = b.ref) && true)) := by
    rw [bytes_dec, Bool.eq_iff_iff]
    cases a; cases b
    simp
  rw [e]
  refine eqf_one (by rfl) (part_one ag9 rfl) (part_one ag9 rfl) (run_equalIn_string w _ _ _ _ Try.underlying9) ?_
  refine eqf_one (by rfl) (part_agg ag28 sz28) (part_agg ag28 sz28) (equalIn28 w a.ref b.ref d) ?_
  exact eqf_none

/-- The program. -/
def ap (B : Nat) : AProg := ⟨tbl, Snd Try.prog B, fun ty a b t => ∀ (ι : Inj) (a' b' : Value) (w : World) (op : BinOp) (x y : Operand), VR ι a a' → VR ι b b' → (op = .eql ∨ op = .neq) →
  (do eqGuard op ty x y a' b'; binOp op ty a' b' : Sem Value).run Try.prog w = .ok (.bool (if op = .eql then t else !t)) w⟩

theorem ap_ok (B : Nat) : ProgOk Try.prog B (ap B) := ⟨tbl_ok, fun _ _ _ _ _ h => h, fun _ _ _ _ h => h⟩

theorem ap_prg (B : Nat) : Prg (ap B) where
  fn := rfl
  ok := ⟨B, ap_ok B, fun _ _ _ _ _ h => h⟩
  eqR a b := eqv_of (by kernel_rfl) rfl rfl fun w => equalIn28 w a b 9998
  eqV a b := eqv_of (by kernel_rfl) rfl rfl fun w => equalIn128 w a b 9998
  eqK a b := eqv_of (by kernel_rfl) rfl rfl fun w => equalIn55 w a b 9997
end Go.Proofs.Ytbldkkabkijpgaa

namespace Go.Proofs.Ytbldkkabkijpgaa
open Go.Am Go.RowKit

section
variable {H : Type} {enc : TypeId × Value → H} {w : World}

theorem mem_weightsEach {P : Program} {y : Nat} : ∀ {ts : List TypeId} {l : List (DataW H)} {i : Nat} {t : TypeId} {d : DataW H}, ts[i]? = some t → l[i]? = some d → y ∈ d.weights P t → y ∈ DataW.weightsEach P ts l
  | [], _, i, _, _, h, _, _ => by simp at h
  | _ :: _, [], i, _, _, _, h, _ => by simp at h
  | t :: ts, d :: l, 0, _, _, ht, hd, hy => by
    simp at ht hd
    subst ht hd
    rw [DataW.weightsEach]
    exact List.mem_append.2 (.inl hy)
  | t :: ts, d :: l, i + 1, _, _, ht, hd, hy => by
    simp at ht hd
    rw [DataW.weightsEach]
    exact List.mem_append.2 (.inr (mem_weightsEach ht hd hy))

theorem len5 {α : Type} : ∀ {l : List α}, l.length = 5 → ∃ a b c d e, l = [a, b, c, d, e]
  | [a, b, c, d, e], _ => ⟨a, b, c, d, e, rfl⟩
theorem len3 {α : Type} : ∀ {l : List α}, l.length = 3 → ∃ a b c, l = [a, b, c]
  | [a, b, c], _ => ⟨a, b, c, rfl⟩
theorem len2 {α : Type} : ∀ {l : List α}, l.length = 2 → ∃ a b, l = [a, b]
  | [a, b], _ => ⟨a, b, rfl⟩

theorem co3 : Try.prog.cellsOf 3 = 1 := by kernel_rfl
theorem co9 : Try.prog.cellsOf 9 = 1 := by kernel_rfl
theorem co23 : Try.prog.cellsOf 23 = 1 := by kernel_rfl
theorem co36 : Try.prog.cellsOf 36 = 1 := by kernel_rfl

theorem op_int : Opens enc Try.prog w 3 intK := by
  intro fuel cs d ps ι σ h _ hR
  obtain ⟨n, rfl, _, _⟩ := DataW.trod_int Try.underlying3 h
  exact ⟨ι, σ, [.int .i64 n], n, hR, Inj.le_refl _, Mv.refl _ _, .cons (.int _ _) .nil, rfl⟩

theorem op_ints : OpensS enc Try.prog w 23 intK := opens_slice Try.underlying23 (by kernel_rfl) (by kernel_rfl) (by decide) op_int

theorem op_op : Opens enc Try.prog w 34 opK := by
  intro fuel cs d ps ι σ h hw hR
  obtain ⟨xs, n, _, hx, hl, hxl, hf⟩ := DataW.trod_struct Try.underlying34 h
  obtain ⟨rfl, _⟩ := Prod.mk.inj hx
  rw [show Try.prog.cellsOf 34 = 5 by kernel_rfl] at hl
  have f0 : DataW.trod enc Try.prog w 0 (fun _ => true) true n 3 ((cs.drop 0).take (Try.prog.cellsOf 3)) = xs[0]? := hf 0 _ rfl
  have f1 : DataW.trod enc Try.prog w 0 (fun _ => true) true n 9 ((cs.drop 1).take (Try.prog.cellsOf 9)) = xs[1]? := hf 1 _ rfl
  have f2 : DataW.trod enc Try.prog w 0 (fun _ => true) true n 9 ((cs.drop 2).take (Try.prog.cellsOf 9)) = xs[2]? := hf 2 _ rfl
  have f3 : DataW.trod enc Try.prog w 0 (fun _ => true) true n 23 ((cs.drop 3).take (Try.prog.cellsOf 23)) = xs[3]? := hf 3 _ rfl
  have f4 : DataW.trod enc Try.prog w 0 (fun _ => true) true n 3 ((cs.drop 4).take (Try.prog.cellsOf 3)) = xs[4]? := hf 4 _ rfl
  have hxl : xs.length = 5 := hxl
  rw [co3] at f0 f4
  rw [co9] at f1 f2
  rw [co23] at f3
  rw [List.getElem?_eq_getElem (show 0 < xs.length by rw [hxl]; decide)] at f0
  rw [List.getElem?_eq_getElem (show 1 < xs.length by rw [hxl]; decide)] at f1
  rw [List.getElem?_eq_getElem (show 2 < xs.length by rw [hxl]; decide)] at f2
  rw [List.getElem?_eq_getElem (show 3 < xs.length by rw [hxl]; decide)] at f3
  rw [List.getElem?_eq_getElem (show 4 < xs.length by rw [hxl]; decide)] at f4
  obtain ⟨c0, c1, c2, c3, c4, rfl⟩ := len5 hl
  obtain ⟨n0, e0, _⟩ := DataW.trod_int Try.underlying3 f0
  obtain ⟨n1, e1, _⟩ := DataW.trod_string Try.underlying9 f1
  obtain ⟨n2, e2, _⟩ := DataW.trod_string Try.underlying9 f2
  obtain ⟨n4, e4, _⟩ := DataW.trod_int Try.underlying3 f4
  have hw3 : ∀ y ∈ (xs[3]'(by omega)).1.weights Try.prog 23, y ≤ reachBytes := fun y hy => hw y (by
    simp only [DataW.weights, Try.underlying34]
    exact mem_weightsEach (i := 3) rfl (by rw [List.getElem?_map, List.getElem?_eq_getElem (by omega)]; rfl) hy)
  obtain ⟨ι', σ', v, cv, zs, k1, k2, k3, k4, k5, k6, _⟩ := op_ints n _ _ _ ι σ f3 hw3 hR
  simp at e0 e1 e2 e4 k4
  subst e0 e1 e2 e4 k4
  exact ⟨ι', σ', [.int .i64 n0, .string n1, .string n2, v, .int .i64 n4], ⟨n0, n1, n2, zs, n4⟩, k1, k2, k3, .cons (.int _ _) (.cons (.string _) (.cons (.string _) (.cons k5 (.cons (.int _ _) .nil)))), v, rfl, k6⟩

theorem op_ops : OpensS enc Try.prog w 22 opK := opens_slice Try.underlying22 (by kernel_rfl) (by kernel_rfl) (by decide) op_op

theorem op_ver : Opens enc Try.prog w 128 verK := by
  intro fuel cs d ps ι σ h hw hR
  obtain ⟨xs, n, _, hx, hl, hxl, hf⟩ := DataW.trod_struct Try.underlying128 h
  rw [show Try.prog.cellsOf 128 = 3 by kernel_rfl] at hl
  have f0 : DataW.trod enc Try.prog w 0 (fun _ => true) true n 3 ((cs.drop 0).take (Try.prog.cellsOf 3)) = xs[0]? := hf 0 _ rfl
  have f1 : DataW.trod enc Try.prog w 0 (fun _ => true) true n 9 ((cs.drop 1).take (Try.prog.cellsOf 9)) = xs[1]? := hf 1 _ rfl
  have f2 : DataW.trod enc Try.prog w 0 (fun _ => true) true n 9 ((cs.drop 2).take (Try.prog.cellsOf 9)) = xs[2]? := hf 2 _ rfl
  have hxl : xs.length = 3 := hxl
  rw [co3] at f0
  rw [co9] at f1 f2
  rw [List.getElem?_eq_getElem (show 0 < xs.length by rw [hxl]; decide)] at f0
  rw [List.getElem?_eq_getElem (show 1 < xs.length by rw [hxl]; decide)] at f1
  rw [List.getElem?_eq_getElem (show 2 < xs.length by rw [hxl]; decide)] at f2
  obtain ⟨c0, c1, c2, rfl⟩ := len3 hl
  obtain ⟨n0, e0, _⟩ := DataW.trod_int Try.underlying3 f0
  obtain ⟨n1, e1, _⟩ := DataW.trod_string Try.underlying9 f1
  obtain ⟨n2, e2, _⟩ := DataW.trod_string Try.underlying9 f2
  simp at e0 e1 e2
  subst e0 e1 e2
  exact ⟨ι, σ, _, ⟨n0, n1, n2⟩, hR, Inj.le_refl _, Mv.refl _ _, .cons (.int _ _) (.cons (.string _) (.cons (.string _) .nil)), rfl⟩

theorem op_vers : OpensS enc Try.prog w 36 verK := opens_slice Try.underlying36 (by kernel_rfl) (by kernel_rfl) (by decide) op_ver

theorem op_ent : Opens enc Try.prog w 38 entK := by
  intro fuel cs d ps ι σ h hw hR
  obtain ⟨xs, n, _, hx, hl, hxl, hf⟩ := DataW.trod_struct Try.underlying38 h
  obtain ⟨rfl, _⟩ := Prod.mk.inj hx
  rw [show Try.prog.cellsOf 38 = 2 by kernel_rfl] at hl
  have f0 : DataW.trod enc Try.prog w 0 (fun _ => true) true n 9 ((cs.drop 0).take (Try.prog.cellsOf 9)) = xs[0]? := hf 0 _ rfl
  have f1 : DataW.trod enc Try.prog w 0 (fun _ => true) true n 36 ((cs.drop 1).take (Try.prog.cellsOf 36)) = xs[1]? := hf 1 _ rfl
  have hxl : xs.length = 2 := hxl
  rw [co9] at f0
  rw [co36] at f1
  rw [List.getElem?_eq_getElem (show 0 < xs.length by rw [hxl]; decide)] at f0
  rw [List.getElem?_eq_getElem (show 1 < xs.length by rw [hxl]; decide)] at f1
  obtain ⟨c0, c1, rfl⟩ := len2 hl
  obtain ⟨n0, e0, _⟩ := DataW.trod_string Try.underlying9 f0
  have hw3 : ∀ y ∈ (xs[1]'(by omega)).1.weights Try.prog 36, y ≤ reachBytes := fun y hy => hw y (by
    simp only [DataW.weights, Try.underlying38]
    exact mem_weightsEach (i := 1) rfl (by rw [List.getElem?_map, List.getElem?_eq_getElem (by omega)]; rfl) hy)
  obtain ⟨ι', σ', v, cv, zs, k1, k2, k3, k4, k5, k6, _⟩ := op_vers n _ _ _ ι σ f1 hw3 hR
  simp at e0 k4
  subst e0 k4
  exact ⟨ι', σ', [.string n0, v], ⟨n0, zs⟩, k1, k2, k3, .cons (.string _) (.cons k5 .nil), v, rfl, k6⟩

theorem op_ents : OpensS enc Try.prog w 46 entK := opens_slice Try.underlying46 (by kernel_rfl) (by kernel_rfl) (by decide) op_ent
end

/-- A law that the abstract machine runs to true. -/
theorem law_run {g : Nat} {cargs : Array Value} {args : List Value} {w : World} {ι : Inj} {σ : AHeap} (hR : RInv w ι σ) (ha : VRL ι args cargs.toList) (h : C (ap w.heap.size) g args σ fun r _ => r = .bool true) :
    Calls Try.prog g cargs w fun e w' => e = .returned (.bool true) ∧ Below w.heap.size w w' := by
  refine (sound (ap_ok w.heap.size) h hR.inv ha).mono ?_
  rintro e w' ⟨r, σ', v', ι', rfl, rfl, hv, _, hB⟩
  rw [vr_bool hv]
  exact ⟨rfl, ⟨hB.os, hB.tape, hB.output, hB.size, fun k hk => hB.keep k hk (hR.noWim k)⟩⟩
end Go.Proofs.Ytbldkkabkijpgaa
