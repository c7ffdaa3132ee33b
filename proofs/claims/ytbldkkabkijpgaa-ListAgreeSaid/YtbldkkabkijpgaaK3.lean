/- Part 3 of the proof: lemmas that the row of the law leans on; nothing is assumed. -/
import Derived.Below
import Derived.ChangeArms
import Derived.KernelRfl
import Derived.Laws.StructEq
import Derived.Test.YtbldkkabkijpgaaK2
namespace Go.Proofs.Ytbldkkabkijpgaa
open Go.Am

theorem bl_irrefl : ∀ a : List UInt8, Op.bytesLess a a = false
  | [] => rfl
  | x :: l => by
    have := bl_irrefl l
    simp [Op.bytesLess, this]

theorem bl_trans : ∀ {a b c : List UInt8}, Op.bytesLess a b = true → Op.bytesLess b c = true → Op.bytesLess a c = true
  | _, [], _, h, _ => by simp [Op.bytesLess] at h
  | _, _ :: _, [], _, h => by simp [Op.bytesLess] at h
  | [], _ :: _, _ :: _, _, _ => rfl
  | x :: a, y :: b, z :: c, h1, h2 => by
    simp only [Op.bytesLess, Bool.or_eq_true, decide_eq_true_eq, Bool.and_eq_true, beq_iff_eq] at h1 h2 ⊢
    rcases h1 with h1 | ⟨rfl, h1⟩
    · rcases h2 with h2 | ⟨rfl, h2⟩
      · exact .inl (UInt8.lt_trans h1 h2)
      · exact .inl h1
    · rcases h2 with h2 | ⟨rfl, h2⟩
      · exact .inl h2
      · exact .inr ⟨rfl, bl_trans h1 h2⟩

theorem bl_total : ∀ a b : List UInt8, Op.bytesLess a b = true ∨ a = b ∨ Op.bytesLess b a = true
  | [], [] => .inr (.inl rfl)
  | [], _ :: _ => .inl rfl
  | _ :: _, [] => .inr (.inr rfl)
  | x :: a, y :: b => by
    simp only [Op.bytesLess, Bool.or_eq_true, decide_eq_true_eq, Bool.and_eq_true, beq_iff_eq]
    rcases Nat.lt_trichotomy x.toNat y.toNat with h | h | h
    · exact .inl (.inl h)
    · have hxy : x = y := UInt8.toNat_inj.1 h
      subst hxy
      rcases bl_total a b with h | h | h
      · exact .inl (.inr ⟨rfl, h⟩)
      · exact .inr (.inl (by rw [h]))
      · exact .inr (.inr (.inr ⟨rfl, h⟩))
    · exact .inr (.inr (.inl h))

/-- a stands ahead of b. -/
def Ltn (a b : ByteArray) : Prop := ltB a b = true

instance (a b : ByteArray) : Decidable (Ltn a b) := inferInstanceAs (Decidable (ltB a b = true))

theorem Ltn.irrefl (a : ByteArray) : ¬ Ltn a a := by simp [Ltn, ltB, bl_irrefl]
theorem Ltn.trans {a b c : ByteArray} (h : Ltn a b) (k : Ltn b c) : Ltn a c := bl_trans h k
theorem toList_inj {a b : ByteArray} (e : a.toList = b.toList) : a = b := by
  rw [ByteArray.toList_eq, ByteArray.toList_eq] at e
  exact ByteArray.ext (Array.toList_inj.1 e)
theorem Ltn.total (a b : ByteArray) : Ltn a b ∨ a = b ∨ Ltn b a := by
  rcases bl_total a.toList b.toList with h | h | h
  · exact .inl h
  · exact .inr (.inl (toList_inj h))
  · exact .inr (.inr h)
theorem Ltn.asymm {a b : ByteArray} (h : Ltn a b) : ¬ Ltn b a := fun k => Ltn.irrefl a (h.trans k)
theorem Ltn.ne {a b : ByteArray} (h : Ltn a b) : a ≠ b := fun e => Ltn.irrefl b (e ▸ h)
theorem Ltn.of_not {a b : ByteArray} (h : ¬ Ltn a b) (hn : a ≠ b) : Ltn b a := by
  rcases Ltn.total a b with h' | h' | h'
  · exact absurd h' h
  · exact absurd h' hn
  · exact h'
/-- .. or the same. -/
theorem Ltn.le_trans {a b c : ByteArray} (h : ¬ Ltn b a) (k : Ltn b c) : Ltn a c := by
  rcases Ltn.total a b with h' | h' | h'
  · exact h'.trans k
  · exact h' ▸ k
  · exact absurd h' h
theorem Ltn.lt_le {a b c : ByteArray} (h : Ltn a b) (k : ¬ Ltn c b) : Ltn a c := by
  rcases Ltn.total b c with h' | h' | h'
  · exact h.trans h'
  · exact h' ▸ h
  · exact absurd h' k

theorem gtB_iff (a b : ByteArray) : gtB a b = true ↔ Ltn b a := by
  unfold gtB Ltn
  constructor
  · intro h
    simp only [Bool.not_eq_true', Bool.or_eq_false_iff, decide_eq_false_iff_not] at h
    exact Ltn.of_not (by unfold Ltn ltB; simp [h.1]) h.2
  · intro h
    have h1 := Ltn.asymm h
    have h2 := (Ltn.ne h).symm
    unfold Ltn ltB at h1
    simp [h1, h2]

theorem cmpP_neg (a b : ByteArray) : cmpP a b < 0 ↔ Ltn a b := by
  unfold cmpP Ltn
  split
  · simp [*]
  · split <;> simp [*]

theorem cmpP_zero (a b : ByteArray) : cmpP a b = 0 ↔ a = b := by
  unfold cmpP
  constructor
  · intro h
    split at h
    · simp at h
    · rename_i h1
      split at h
      · simp at h
      · rename_i h2
        rcases Ltn.total a b with h' | h' | h'
        · exact absurd h' h1
        · exact h'
        · exact absurd ((gtB_iff a b).2 h') h2
  · rintro rfl
    have h1 : ltB a a = false := by simp [ltB, bl_irrefl]
    have h2 : gtB a a = false := by
      have := gtB_iff a a
      cases h : gtB a a
      · rfl
      · exact absurd (this.1 h) (Ltn.irrefl a)
    simp [h1, h2]

/-- Secrets in the order of their names, each once. -/
def Srt (es : List Ent) : Prop := es.Pairwise fun a b => Ltn a.name b.name

/-- A secret put in. -/
def ins (e : Ent) (es : List Ent) : List Ent := es.filter (fun x => decide (Ltn x.name e.name)) ++ e :: es.filter fun x => decide (Ltn e.name x.name)

/-- A secret taken out. -/
def del (n : ByteArray) (es : List Ent) : List Ent := es.filter fun x => decide (x.name ≠ n)

/-- A secret by its name. -/
def look (n : ByteArray) (es : List Ent) : Option Ent := es.find? fun x => decide (x.name = n)

theorem Srt.filter {es : List Ent} (h : Srt es) (p : Ent → Bool) : Srt (es.filter p) := List.Pairwise.filter p h

theorem Srt.ins {es : List Ent} (h : Srt es) (e : Ent) : Srt (ins e es) := by
  unfold Proofs.Ytbldkkabkijpgaa.ins Srt
  rw [List.pairwise_append]
  refine ⟨h.filter _, ?_, ?_⟩
  · rw [List.pairwise_cons]
    exact ⟨fun x hx => by simpa using (List.mem_filter.1 hx).2, h.filter _⟩
  · intro x hx y hy
    have h1 : Ltn x.name e.name := by simpa using (List.mem_filter.1 hx).2
    rcases List.mem_cons.1 hy with rfl | hy
    · exact h1
    · have h2 : Ltn e.name y.name := by simpa using (List.mem_filter.1 hy).2
      exact h1.trans h2

theorem Srt.del {es : List Ent} (h : Srt es) (n : ByteArray) : Srt (del n es) := h.filter _

theorem filter_all {α : Type} {p : α → Bool} {l : List α} (h : ∀ x ∈ l, p x = true) : l.filter p = l := List.filter_eq_self.2 h
theorem filter_none {α : Type} {p : α → Bool} {l : List α} (h : ∀ x ∈ l, p x = false) : l.filter p = [] := List.filter_eq_nil_iff.2 fun x hx => by simp [h x hx]

theorem split_filter {α : Type} {p : α → Bool} {l a b : List α} (e : a ++ b = l) (ha : ∀ x ∈ a, p x = true) (hb : ∀ x ∈ b, p x = false) : a = l.filter p ∧ b = l.filter fun x => !p x := by
  subst e
  rw [List.filter_append, List.filter_append, filter_all ha, filter_none hb, filter_none (p := fun x => !p x) (fun x hx => by simp [ha x hx]), filter_all (p := fun x => !p x) (fun x hx => by simp [hb x hx])]
  simp

theorem ins_mid {A B C : List Ent} {e : Ent} (hA : ∀ x ∈ A, Ltn x.name e.name) (hC : ∀ x ∈ C, Ltn e.name x.name) : ins e (A ++ B ++ C) = A ++ ins e B ++ C := by
  unfold ins
  simp only [List.filter_append]
  rw [filter_all (l := A) fun x hx => by simpa using hA x hx, filter_none (l := C) fun x hx => by simpa using (hC x hx).asymm, filter_none (l := A) fun x hx => by simpa using (hA x hx).asymm,
    filter_all (l := C) fun x hx => by simpa using hC x hx]
  simp

theorem del_mid {A B C : List Ent} {n : ByteArray} (hA : ∀ x ∈ A, Ltn x.name n) (hC : ∀ x ∈ C, Ltn n x.name) : del n (A ++ B ++ C) = A ++ del n B ++ C := by
  unfold del
  simp only [List.filter_append]
  rw [filter_all (l := A) fun x hx => by simpa using (hA x hx).ne, filter_all (l := C) fun x hx => by simpa using (hC x hx).ne.symm]

theorem look_mid {A B C : List Ent} {n : ByteArray} (hA : ∀ x ∈ A, Ltn x.name n) (hC : ∀ x ∈ C, Ltn n x.name) : look n (A ++ B ++ C) = look n B := by
  have h1 : look n A = none := by
    unfold look
    rw [List.find?_eq_none]
    intro x hx
    simpa using (hA x hx).ne
  have h2 : look n C = none := by
    unfold look
    rw [List.find?_eq_none]
    intro x hx
    simpa using (hC x hx).ne.symm
  unfold look at *
  rw [List.find?_append, List.find?_append, h1, h2]
  simp

/-! ### the place in an inner node -/
theorem belowGo_spec (ks : List KidT) (name : ByteArray) : ∀ (i : Nat), i < ks.length → (∀ j k, i < j → ks[j]? = some k → Ltn name k.low) →
    (belowGo ks name i = 0 ∨ ∃ k, ks[belowGo ks name i]? = some k ∧ ¬ Ltn name k.low) ∧ ∀ j k, belowGo ks name i < j → ks[j]? = some k → Ltn name k.low
  | 0, hi, h => ⟨.inl rfl, h⟩
  | i + 1, hi, h => by
    unfold belowGo
    rw [List.getElem?_eq_getElem hi]
    simp only
    split
    · rename_i hg
      refine belowGo_spec ks name i (by omega) fun j k hj hk => ?_
      by_cases hji : j = i + 1
      · subst hji
        rw [List.getElem?_eq_getElem hi] at hk
        injection hk with hk
        subst hk
        exact (gtB_iff _ _).1 hg
      · exact h j k (by omega) hk
    · rename_i hg
      refine ⟨.inr ⟨_, List.getElem?_eq_getElem hi, fun hl => hg ((gtB_iff _ _).2 hl)⟩, h⟩

theorem belowP_spec {ks : List KidT} (name : ByteArray) (h : ks ≠ []) : ∃ k, ks[belowP ks name]? = some k ∧ (belowP ks name = 0 ∨ ¬ Ltn name k.low) ∧ ∀ j k, belowP ks name < j → ks[j]? = some k → Ltn name k.low := by
  have hlt := belowP_lt name h
  obtain ⟨h1, h2⟩ := belowGo_spec ks name (ks.length - 1) (by have := List.length_pos_iff.2 h; omega) (fun j k hj hk => by
    rw [List.getElem?_eq_none (by omega)] at hk
    simp at hk)
  refine ⟨_, List.getElem?_eq_getElem hlt, ?_, h2⟩
  rcases h1 with h1 | ⟨k, hk, h1⟩
  · exact .inl h1
  · have hk' : ks[belowP ks name]? = some k := hk
    rw [List.getElem?_eq_getElem hlt] at hk'
    injection hk' with hk'
    exact .inr (hk' ▸ h1)

/-! ### the place in a leaf -/
theorem bsGo_spec {es : List Ent} {name : ByteArray} (hs : Srt es) : ∀ (u i j : Nat), i ≤ j → j ≤ es.length → j - i ≤ u → (∀ k x, k < i → es[k]? = some x → Ltn x.name name) → (∀ k x, j ≤ k → es[k]? = some x → ¬ Ltn x.name name) →
    (∀ k x, k < bsGo es name u i j → es[k]? = some x → Ltn x.name name) ∧ ∀ k x, bsGo es name u i j ≤ k → es[k]? = some x → ¬ Ltn x.name name
  | 0, i, j, hij, hj, hu, h1, h2 => by
    have : i = j := by omega
    subst this
    exact ⟨h1, h2⟩
  | u + 1, i, j, hij, hj, hu, h1, h2 => by
    unfold bsGo
    split
    · rename_i hlt
      have hh : (i + j) / 2 < es.length := by omega
      have hpw := List.pairwise_iff_getElem.1 hs
      rw [List.getElem?_eq_getElem hh]
      simp only
      split
      · rename_i hc
        have hc := (cmpP_neg _ _).1 hc
        refine bsGo_spec hs u _ _ (by omega) hj (by omega) (fun k x hk hx => ?_) h2
        obtain ⟨hkl, rfl⟩ := List.getElem?_eq_some_iff.1 hx
        by_cases e : k = (i + j) / 2
        · subst e; exact hc
        · exact (hpw k _ hkl hh (by omega)).trans hc
      · rename_i hc
        have hc : ¬ Ltn _ _ := fun h => hc ((cmpP_neg _ _).2 h)
        refine bsGo_spec hs u _ _ (by omega) (by omega) (by omega) h1 (fun k x hk hx => ?_)
        obtain ⟨hkl, rfl⟩ := List.getElem?_eq_some_iff.1 hx
        by_cases e : (i + j) / 2 = k
        · subst e; exact hc
        · exact fun h => hc ((hpw _ k hh hkl (by omega)).trans h)
    · have : i = j := by omega
      subst this
      exact ⟨h1, h2⟩

theorem bsP_spec {es : List Ent} (name : ByteArray) (hs : Srt es) : es.take (bsP es name) = es.filter (fun x => decide (Ltn x.name name)) ∧ es.drop (bsP es name) = es.filter fun x => !decide (Ltn x.name name) := by
  obtain ⟨h1, h2⟩ := bsGo_spec (name := name) hs es.length 0 es.length (Nat.zero_le _) (Nat.le_refl _) (by omega) (fun k x hk => by omega) (fun k x hk hx => by rw [List.getElem?_eq_none hk] at hx; simp at hx)
  have ha : ∀ x ∈ es.take (bsP es name), Ltn x.name name := fun x hx => by
    obtain ⟨k, hk⟩ := List.getElem?_of_mem hx
    have hkl : k < bsP es name := by
      rcases Nat.lt_or_ge k (bsP es name) with h | h
      · exact h
      · rw [List.getElem?_take_eq_none h] at hk; simp at hk
    rw [List.getElem?_take_of_lt hkl] at hk
    exact h1 k x hkl hk
  have hb : ∀ x ∈ es.drop (bsP es name), ¬ Ltn x.name name := fun x hx => by
    obtain ⟨k, hk⟩ := List.getElem?_of_mem hx
    rw [List.getElem?_drop] at hk
    exact h2 _ x (by show bsP es name ≤ _; omega) hk
  exact split_filter (p := fun x : Ent => decide (Ltn x.name name)) (List.take_append_drop (bsP es name) es) (fun x hx => by simpa using ha x hx) (fun x hx => by simpa using hb x hx)

theorem bsIs_iff {es : List Ent} (name : ByteArray) (hs : Srt es) : bsIs es name = true ↔ ∃ e ∈ es, e.name = name := by
  obtain ⟨h1, h2⟩ := bsP_spec name hs
  unfold bsIs
  constructor
  · intro h
    split at h
    · rename_i e he
      exact ⟨e, List.mem_of_getElem? he, (cmpP_zero _ _).1 (by simpa using h)⟩
    · simp at h
  · rintro ⟨e, he, rfl⟩
    have hm : e ∈ es.drop (bsP es e.name) := by
      rw [h2]
      exact List.mem_filter.2 ⟨he, by simpa using Ltn.irrefl e.name⟩
    cases hd : es.drop (bsP es e.name) with
    | nil => rw [hd] at hm; simp at hm
    | cons x l =>
      have hx : es[bsP es e.name]? = some x := by
        have := List.getElem?_drop (xs := es) (i := bsP es e.name) (j := 0)
        rw [hd] at this
        simpa using this.symm
      rw [hx]
      simp only
      have hsd : Srt (es.drop (bsP es e.name)) := by rw [h2]; exact hs.filter _
      rw [hd] at hm hsd
      have hxe : ¬ Ltn x.name e.name := by
        have : x ∈ es.drop (bsP es e.name) := by rw [hd]; simp
        rw [h2] at this
        simpa using (List.mem_filter.1 this).2
      rcases List.mem_cons.1 hm with rfl | hm
      · simp [(cmpP_zero _ _).2]
      · exact absurd ((List.pairwise_cons.1 hsd).1 e hm) hxe
end Go.Proofs.Ytbldkkabkijpgaa

namespace Go.Proofs.Ytbldkkabkijpgaa
open Go.Am

section
variable {P : Program} {w : World}

/-- A field that is no aggregate: its cell. -/
theorem part_one {t : TypeId} (ha : tagg P t = some false) {cs : Array Value} {off : Nat} {v : Value} (hv : cs[off]? = some v) : (part t cs off).run P w = .ok v w := by
  have h : (isAgg t).run P w = .ok false w := run_isAgg' ha w
  simp [part, h, hv]

theorem part_agg {t : TypeId} {n : Nat} (ha : tagg P t = some true) (hn : tsize P t = some n) {cs : Array Value} {off : Nat} : (part t cs off).run P w = .ok (.agg (cs.extract off (off + n))) w := by
  have h : (isAgg t).run P w = .ok true w := run_isAgg' ha w
  have h2 : (sizeOf t).run P w = .ok n w := run_sizeOf' hn w
  simp [part, h, h2]

theorem eqf_one {d : Nat} {xs ys : Array Value} {f : Field} {fs : List Field} {a b : Value} {r s : Bool} (hn : (f.name == "_") = false) (ha : (part f.type xs f.offset).run P w = .ok a w) (hb : (part f.type ys f.offset).run P w = .ok b w)
    (he : (Op.equalIn d f.type a b).run P w = .ok r w) (hr : (Op.eqFields d xs ys fs).run P w = .ok s w) : (Op.eqFields d xs ys (f :: fs)).run P w = .ok (r && s) w := by
  have hn' : f.name ≠ "_" := by simpa using hn
  rw [Op.eqFields]
  simp only [if_pos hn', Sem.run_bind, ha, hb, he, Result.andThen_ok]
  cases r
  · simp
  · simpa using hr

theorem eqf_none {d : Nat} {xs ys : Array Value} : (Op.eqFields d xs ys []).run P w = .ok true w := by simp [Op.eqFields]

/-- == of values without addresses, from what equalIn tells. -/
theorem eqv_of {ty : TypeId} {xs ys : Array Value} {t : Bool} (hg : P.eqGuardType P.depth ty = false) (hx : xs.toList.all (fun v => flat v) = true) (hy : ys.toList.all (fun v => flat v) = true) (he : ∀ w, (Op.equalIn 10000 ty (.agg xs) (.agg ys)).run P w = .ok t w) :
    ∀ (ι : Inj) (a' b' : Value) (w : World) (op : BinOp) (x y : Operand), VR ι (.agg xs) a' → VR ι (.agg ys) b' → (op = .eql ∨ op = .neq) →
      (do eqGuard op ty x y a' b'; binOp op ty a' b' : Sem Value).run P w = .ok (.bool (if op = .eql then t else !t)) w := by
  have key : ∀ {ι : Inj} {zs : Array Value} {a' : Value}, zs.toList.all (fun v => flat v) = true → VR ι (.agg zs) a' → a' = .agg zs := by
    intro ι zs a' hz h
    obtain ⟨cs', rfl, hl, _⟩ := vr_agg h
    have : ∀ {l l' : List Value}, l.all (fun v => flat v) = true → VRL ι l l' → l' = l := by
      intro l
      induction l with
      | nil => intro l' _ h; cases h; rfl
      | cons v l ih =>
        intro l' hf h
        cases h with
        | cons hv hl =>
          simp only [List.all_cons, Bool.and_eq_true] at hf
          rw [ih hf.2 hl]
          congr 1
          have hfv := hf.1
          cases hv <;> first | rfl | simp [flat] at hfv
    rw [Array.toList_inj.1 (this hz hl)]
  intro ι a' b' w op x y ha hb hop
  rw [key hx ha, key hy hb]
  simp only [Sem.run_bind, run_eqGuard_agg (P := P) w op ty x y xs ys hg, Result.andThen_ok]
  rcases hop with rfl | rfl
  · rw [run_eql_struct, he]; rfl
  · rw [run_neq_struct, he]; rfl
end

theorem fields_of {P : Program} {t : TypeId} {fs : Array Field} (hu : P.underlying t = some (.struct fs)) : P.fieldsOf t = fs := by simp [Program.fieldsOf, hu]

theorem ag26 : tagg Try.prog 26 = some false := by kernel_rfl
theorem ag3 : tagg Try.prog 3 = some false := by kernel_rfl
theorem ag9 : tagg Try.prog 9 = some false := by kernel_rfl
theorem ag28 : tagg Try.prog 28 = some true := by kernel_rfl
theorem sz28 : tsize Try.prog 28 = some 4 := by kernel_rfl

theorem equalIn28 (w : World) (a b : RefT) (d : Nat) : (Op.equalIn (d + 2) 28 (.agg a.cells.toArray) (.agg b.cells.toArray)).run Try.prog w = .ok (decide (a = b)) w := by
  have hu := Try.underlying28
  have hf := fields_of hu
  rw [run_equalIn_agg w (d + 1) 28 _ _ (by rw [hf]; exact hu) (by kernel_rfl), hf]
  have e : decide (a = b) = ((a.key == b.key) && ((a.seg == b.seg) && ((a.off == b.off) && ((a.len == b.len) && true)))) := by
    rw [Bool.eq_iff_iff]
    cases a; cases b
    simp
  rw [e]
  refine eqf_one (by rfl) (part_one ag26 rfl) (part_one ag26 rfl) (run_equalIn_int w _ _ _ _ _ _ Try.underlying26) ?_
  refine eqf_one (by rfl) (part_one ag3 rfl) (part_one ag3 rfl) (run_equalIn_int w _ _ _ _ _ _ Try.underlying3) ?_
  refine eqf_one (by rfl) (part_one ag3 rfl) (part_one ag3 rfl) (run_equalIn_int w _ _ _ _ _ _ Try.underlying3) ?_
  refine eqf_one (by rfl) (part_one ag3 rfl) (part_one ag3 rfl) (run_equalIn_int w _ _ _ _ _ _ Try.underlying3) ?_
  exact eqf_none

theorem bytes_dec (a b : ByteArray) : (a.toList == b.toList) = decide (a = b) := by
  by_cases h : a = b
  · subst h; simp
  · have : a.toList ≠ b.toList := fun e => h (toList_inj e)
    simp [h, this]

theorem equalIn128 (w : World) (a b : Ver) (d : Nat) : (Op.equalIn (d + 2) 128 (.agg #[.int .i64 a.no, .string a.value, .string a.note]) (.agg #[.int .i64 b.no, .string b.value, .string b.note])).run Try.prog w = .ok (decide (a = b)) w := by
  have hu := Try.underlying128
  have hf := fields_of hu
  rw [run_equalIn_agg w (d + 1) 128 _ _ (by rw [hf]; exact hu) (by kernel_rfl), hf]
  have e : decide (a = b) = ((a.no == b.no) && ((a.value.toList == b.value.toList) && ((a.note.toList == b.note.toList) && true))) := by
    rw [bytes_dec, bytes_dec, Bool.eq_iff_iff]
    cases a; cases b
    simp
  rw [e]
  refine eqf_one (by rfl) (part_one ag3 rfl) (part_one ag3 rfl) (run_equalIn_int w _ _ _ _ _ _ Try.underlying3) ?_
  refine eqf_one (by rfl) (part_one ag9 rfl) (part_one ag9 rfl) (run_equalIn_string w _ _ _ _ Try.underlying9) ?_
  refine eqf_one (by rfl) (part_one ag9 rfl) (part_one ag9 rfl) (run_equalIn_string w _ _ _ _ Try.underlying9) ?_
  exact eqf_none

theorem equalIn55 (w : World) (a b : KidT) (d : Nat) : (Op.equalIn (d + 3) 55 (.agg #[.string a.low, .int .u64 a.ref.key, .int .i64 a.ref.seg, .int .i64 a.ref.off, .int .i64 a.ref.len])
    (.agg #[.string b.low, .int .u64 b.ref.key, .int .i64 b.ref.seg, .int .i64 b.ref.off, .int .i64 b.ref.len])).run Try.prog w = .ok (decide (a = b)) w := by
  have hu := Try.underlying55
  have hf := fields_of hu
  rw [run_equalIn_agg w (d + 2) 55 _ _ (by rw [hf]; exact hu) (by kernel_rfl), hf]
  have e : decide (a = b) = ((a.low.toList == b.low.toList) && (decide (a.ref = b.ref) && true)) := by
    rw [bytes_dec, Bool.eq_iff_iff]
    cases a; cases b
    simp
  rw [e]
  refine eqf_one (by rfl) (part_one ag9 rfl) (part_one ag9 rfl) (run_equalIn_string w _ _ _ _ Try.underlying9) ?_
  refine eqf_one (by rfl) (part_agg ag28 sz28) (part_agg ag28 sz28) (equalIn28 w a.ref b.ref d) ?_
  exact eqf_none

/-- The program. -/
def ap (B : Nat) : AProg := ⟨tbl, Snd Try.prog B, fun ty a b t => ∀ (ι : Inj) (a' b' : Value) (w : World) (op : BinOp) (x y : Operand), VR ι a a' → VR ι b b' → (op = .eql ∨ op = .neq) →
  (do eqGuard op ty x y a' b'; binOp op ty a' b' : Sem Value).run Try.prog w = .ok (.bool (if op = .eql then t else !t)) w⟩

theorem ap_ok (B : Nat) : ProgOk Try.prog B (ap B) := ⟨tbl_ok, fun _ _ _ _ _ h => h, fun _ _ _ _ h => h⟩

theorem ap_prg (B : Nat) : Prg (ap B) where
  fn := rfl
  ok := ⟨B, ap_ok B, fun _ _ _ _ _ h => h⟩
  eqR a b := eqv_of (by kernel_rfl) rfl rfl fun w => equalIn28 w a b 9998
  eqV a b := eqv_of (by kernel_rfl) rfl rfl fun w => equalIn128 w a b 9998
  eqK a b := eqv_of (by kernel_rfl) rfl rfl fun w => equalIn55 w a b 9997
end Go.Proofs.Ytbldkkabkijpgaa

namespace Go.Proofs.Ytbldkkabkijpgaa
open Go.Am Go.RowKit

section
variable {H : Type} {enc : TypeId × Value → H} {w : World}

theorem mem_weightsEach {P : Program} {y : Nat} : ∀ {ts : List TypeId} {l : List (DataW H)} {i : Nat} {t : TypeId} {d : DataW H}, ts[i]? = some t → l[i]? = some d → y ∈ d.weights P t → y ∈ DataW.weightsEach P ts l
  | [], _, i, _, _, h, _, _ => by simp at h
  | _ :: _, [], i, _, _, _, h, _ => by simp at h
  | t :: ts, d :: l, 0, _, _, ht, hd, hy => by
    simp at ht hd
    subst ht hd
    rw [DataW.weightsEach]
    exact List.mem_append.2 (.inl hy)
  | t :: ts, d :: l, i + 1, _, _, ht, hd, hy => by
    simp at ht hd
    rw [DataW.weightsEach]
    exact List.mem_append.2 (.inr (mem_weightsEach ht hd hy))

theorem len5 {α : Type} : ∀ {l : List α}, l.length = 5 → ∃ a b c d e, l = [a, b, c, d, e]
  | [a, b, c, d, e], _ => ⟨a, b, c, d, e, rfl⟩
theorem len3 {α : Type} : ∀ {l : List α}, l.length = 3 → ∃ a b c, l = [a, b, c]
  | [a, b, c], _ => ⟨a, b, c, rfl⟩
theorem len2 {α : Type} : ∀ {l : List α}, l.length = 2 → ∃ a b, l = [a, b]
  | [a, b], _ => ⟨a, b, rfl⟩

theorem co3 : Try.prog.cellsOf 3 = 1 := by kernel_rfl
theorem co9 : Try.prog.cellsOf 9 = 1 := by kernel_rfl
theorem co23 : Try.prog.cellsOf 23 = 1 := by kernel_rfl
theorem co36 : Try.prog.cellsOf 36 = 1 := by kernel_rfl

theorem op_int : Opens enc Try.prog w 3 intK := by
  intro fuel cs d ps ι σ h _ hR
  obtain ⟨n, rfl, _, _⟩ := DataW.trod_int Try.underlying3 h
  exact ⟨ι, σ, [.int .i64 n], n, hR, Inj.le_refl _, Mv.refl _ _, .cons (.int _ _) .nil, rfl⟩

theorem op_ints : OpensS enc Try.prog w 23 intK := opens_slice Try.underlying23 (by kernel_rfl) (by kernel_rfl) (by decide) op_int

theorem op_op : Opens enc Try.prog w 34 opK := by
  intro fuel cs d ps ι σ h hw hR
  obtain ⟨xs, n, _, hx, hl, hxl, hf⟩ := DataW.trod_struct Try.underlying34 h
  obtain ⟨rfl, _⟩ := Prod.mk.inj hx
  rw [show Try.prog.cellsOf 34 = 5 by kernel_rfl] at hl
  have f0 : DataW.trod enc Try.prog w 0 (fun _ => true) true n 3 ((cs.drop 0).take (Try.prog.cellsOf 3)) = xs[0]? := hf 0 _ rfl
  have f1 : DataW.trod enc Try.prog w 0 (fun _ => true) true n 9 ((cs.drop 1).take (Try.prog.cellsOf 9)) = xs[1]? := hf 1 _ rfl
  have f2 : DataW.trod enc Try.prog w 0 (fun _ => true) true n 9 ((cs.drop 2).take (Try.prog.cellsOf 9)) = xs[2]? := hf 2 _ rfl
  have f3 : DataW.trod enc Try.prog w 0 (fun _ => true) true n 23 ((cs.drop 3).take (Try.prog.cellsOf 23)) = xs[3]? := hf 3 _ rfl
  have f4 : DataW.trod enc Try.prog w 0 (fun _ => true) true n 3 ((cs.drop 4).take (Try.prog.cellsOf 3)) = xs[4]? := hf 4 _ rfl
  have hxl : xs.length = 5 := hxl
  rw [co3] at f0 f4
  rw [co9] at f1 f2
  rw [co23] at f3
  rw [List.getElem?_eq_getElem (show 0 < xs.length by rw [hxl]; decide)] at f0
  rw [List.getElem?_eq_getElem (show 1 < xs.length by rw [hxl]; decide)] at f1
  rw [List.getElem?_eq_getElem (show 2 < xs.length by rw [hxl]; decide)] at f2
  rw [List.getElem?_eq_getElem (show 3 < xs.length by rw [hxl]; decide)] at f3
  rw [List.getElem?_eq_getElem (show 4 < xs.length by rw [hxl]; decide)] at f4
  obtain ⟨c0, c1, c2, c3, c4, rfl⟩ := len5 hl
  obtain ⟨n0, e0, _⟩ := DataW.trod_int Try.underlying3 f0
  obtain ⟨n1, e1, _⟩ := DataW.trod_string Try.underlying9 f1
  obtain ⟨n2, e2, _⟩ := DataW.trod_string Try.underlying9 f2
  obtain ⟨n4, e4, _⟩ := DataW.trod_int Try.underlying3 f4
  have hw3 : ∀ y ∈ (xs[3]'(by omega)).1.weights Try.prog 23, y ≤ reachBytes := fun y hy => hw y (by
    simp only [DataW.weights, Try.underlying34]
    exact mem_weightsEach (i := 3) rfl (by rw [List.getElem?_map, List.getElem?_eq_getElem (by omega)]; rfl) hy)
  obtain ⟨ι', σ', v, cv, zs, k1, k2, k3, k4, k5, k6, _⟩ := op_ints n _ _ _ ι σ f3 hw3 hR
  simp at e0 e1 e2 e4 k4
  subst e0 e1 e2 e4 k4
  exact ⟨ι', σ', [.int .i64 n0, .string n1, .string n2, v, .int .i64 n4], ⟨n0, n1, n2, zs, n4⟩, k1, k2, k3, .cons (.int _ _) (.cons (.string _) (.cons (.string _) (.cons k5 (.cons (.int _ _) .nil)))), v, rfl, k6⟩

theorem op_ops : OpensS enc Try.prog w 22 opK := opens_slice Try.underlying22 (by kernel_rfl) (by kernel_rfl) (by decide) op_op

theorem op_ver : Opens enc Try.prog w 128 verK := by
  intro fuel cs d ps ι σ h hw hR
  obtain ⟨xs, n, _, hx, hl, hxl, hf⟩ := DataW.trod_struct Try.underlying128 h
  rw [show Try.prog.cellsOf 128 = 3 by kernel_rfl] at hl
  have f0 : DataW.trod enc Try.prog w 0 (fun _ => true) true n 3 ((cs.drop 0).take (Try.prog.cellsOf 3)) = xs[0]? := hf 0 _ rfl
  have f1 : DataW.trod enc Try.prog w 0 (fun _ => true) true n 9 ((cs.drop 1).take (Try.prog.cellsOf 9)) = xs[1]? := hf 1 _ rfl
  have f2 : DataW.trod enc Try.prog w 0 (fun _ => true) true n 9 ((cs.drop 2).take (Try.prog.cellsOf 9)) = xs[2]? := hf 2 _ rfl
  have hxl : xs.length = 3 := hxl
  rw [co3] at f0
  rw [co9] at f1 f2
  rw [List.getElem?_eq_getElem (show 0 < xs.length by rw [hxl]; decide)] at f0
  rw [List.getElem?_eq_getElem (show 1 < xs.length by rw [hxl]; decide)] at f1
  rw [List.getElem?_eq_getElem (show 2 < xs.length by rw [hxl]; decide)] at f2
  obtain ⟨c0, c1, c2, rfl⟩ := len3 hl
  obtain ⟨n0, e0, _⟩ := DataW.trod_int Try.underlying3 f0
  obtain ⟨n1, e1, _⟩ := DataW.trod_string Try.underlying9 f1
  obtain ⟨n2, e2, _⟩ := DataW.trod_string Try.underlying9 f2
  simp at e0 e1 e2
  subst e0 e1 e2
  exact ⟨ι, σ, _, ⟨n0, n1, n2⟩, hR, Inj.le_refl _, Mv.refl _ _, .cons (.int _ _) (.cons (.string _) (.cons (.string _) .nil)), rfl⟩

theorem op_vers : OpensS enc Try.prog w 36 verK := opens_slice Try.underlying36 (by kernel_rfl) (by kernel_rfl) (by decide) op_ver

theorem op_ent : Opens enc Try.prog w 38 entK := by
  intro fuel cs d ps ι σ h hw hR
  obtain ⟨xs, n, _, hx, hl, hxl, hf⟩ := DataW.trod_struct Try.underlying38 h
  obtain ⟨rfl, _⟩ := Prod.mk.inj hx
  rw [show Try.prog.cellsOf 38 = 2 by kernel_rfl] at hl
  have f0 : DataW.trod enc Try.prog w 0 (fun _ => true) true n 9 ((cs.drop 0).take (Try.prog.cellsOf 9)) = xs[0]? := hf 0 _ rfl
  have f1 : DataW.trod enc Try.prog w 0 (fun _ => true) true n 36 ((cs.drop 1).take (Try.prog.cellsOf 36)) = xs[1]? := hf 1 _ rfl
  have hxl : xs.length = 2 := hxl
  rw [co9] at f0
  rw [co36] at f1
  rw [List.getElem?_eq_getElem (show 0 < xs.length by rw [hxl]; decide)] at f0
  rw [List.getElem?_eq_getElem (show 1 < xs.length by rw [hxl]; decide)] at f1
  obtain ⟨c0, c1, rfl⟩ := len2 hl
  obtain ⟨n0, e0, _⟩ := DataW.trod_string Try.underlying9 f0
  have hw3 : ∀ y ∈ (xs[1]'(by omega)).1.weights Try.prog 36, y ≤ reachBytes := fun y hy => hw y (by
    simp only [DataW.weights, Try.underlying38]
    exact mem_weightsEach (i := 1) rfl (by rw [List.getElem?_map, List.getElem?_eq_getElem (by omega)]; rfl) hy)
  obtain ⟨ι', σ', v, cv, zs, k1, k2, k3, k4, k5, k6, _⟩ := op_vers n _ _ _ ι σ f1 hw3 hR
  simp at e0 k4
  subst e0 k4
  exact ⟨ι', σ', [.string n0, v], ⟨n0, zs⟩, k1, k2, k3, .cons (.string _) (.cons k5 .nil), v, rfl, k6⟩

theorem op_ents : OpensS enc Try.prog w 46 entK := opens_slice Try.underlying46 (by kernel_rfl) (by kernel_rfl) (by decide) op_ent
end

/-- A law that the abstract machine runs to true. -/
theorem law_run {g : Nat} {cargs : Array Value} {args : List Value} {w : World} {ι : Inj} {σ : AHeap} (hR : RInv w ι σ) (ha : VRL ι args cargs.toList) (h : C (ap w.heap.size) g args σ fun r _ => r = .bool true) :
    Calls Try.prog g cargs w fun e w' => e = .returned (.bool true) ∧ Below w.heap.size w w' := by
  refine (sound (ap_ok w.heap.size) h hR.inv ha).mono ?_
  rintro e w' ⟨r, σ', v', ι', rfl, rfl, hv, _, hB⟩
  rw [vr_bool hv]
  exact ⟨rfl, ⟨hB.os, hB.tape, hB.output, hB.size, fun k hk => hB.keep k hk (hR.noWim k)⟩⟩
end Go.Proofs.Ytbldkkabkijpgaa

namespace Go.Proofs.Ytbldkkabkijpgaa
open Go.Am

theorem rd_some {H : List NodeT} {r : RefT} {x : NodeT} (h : rd H r = some x) : ∃ k : Nat, k < H.length ∧ r = refN k ∧ H[k]? = some x := by
  unfold rd at h
  split at h
  · rename_i hc
    obtain ⟨h1, h2, h3⟩ := hc
    exact ⟨(r.key - 1).toNat, by omega, h3.symm, h⟩
  · simp at h

theorem rd_at {H : List NodeT} {k : Nat} {x : NodeT} (h : H[k]? = some x) : rd H (refN k) = some x := by
  have hk : k < H.length := by
    rcases Nat.lt_or_ge k H.length with h' | h'
    · exact h'
    · simp [List.getElem?_eq_none h'] at h
  have e : ((refN k).key - 1).toNat = k := by simp [refN]
  unfold rd
  rw [e, if_pos ⟨by simp [refN]; omega, by simp [refN]; omega, rfl⟩, h]

theorem rd_mono {H : List NodeT} {r : RefT} {x : NodeT} (X : List NodeT) (h : rd H r = some x) : rd (H ++ X) r = some x := by
  obtain ⟨k, hk, rfl, hx⟩ := rd_some h
  exact rd_at (by rw [List.getElem?_append_left hk]; exact hx)

theorem rd_new (H : List NodeT) (x : NodeT) : rd (H ++ [x]) (refN H.length) = some x := rd_at (by simp)

theorem refN_inj {j k : Nat} (h : refN j = refN k) : j = k := by
  have : ((j + 1 : Nat) : Int) = ((k + 1 : Nat) : Int) := congrArg RefT.key h
  omega

/-- The least name of secrets in order. -/
def lowE (es : List Ent) : Option ByteArray := es.head?.map (·.name)

/-- A node at a height (0: a leaf) with these secrets below it. -/
def Nd (H : List NodeT) : Nat → NodeT → List Ent → Prop
  | 0, x, es => x = ⟨true, es, []⟩
  | h + 1, x, es => ∃ ps : List (KidT × List Ent), x = ⟨false, [], ps.map (·.1)⟩ ∧ es = ps.flatMap (·.2) ∧ ∀ p ∈ ps, (∃ y, rd H p.1.ref = some y ∧ Nd H h y p.2 ∧ 2 ≤ sizeP y ∧ sizeP y ≤ 4) ∧ lowE p.2 = some p.1.low

/-- A kid, with the secrets below it. -/
def KidOk (H : List NodeT) (h : Nat) (p : KidT × List Ent) : Prop := (∃ y, rd H p.1.ref = some y ∧ Nd H h y p.2 ∧ 2 ≤ sizeP y ∧ sizeP y ≤ 4) ∧ lowE p.2 = some p.1.low

theorem Nd.mono {H : List NodeT} (X : List NodeT) : ∀ {h : Nat} {x : NodeT} {es : List Ent}, Nd H h x es → Nd (H ++ X) h x es
  | 0, _, _, h => h
  | h + 1, x, es, ⟨ps, h1, h2, h3⟩ => ⟨ps, h1, h2, fun p hp => by
      obtain ⟨⟨y, k1, k2, k3⟩, k4⟩ := h3 p hp
      exact ⟨⟨y, rd_mono X k1, Nd.mono X k2, k3⟩, k4⟩⟩

theorem KidOk.mono {H : List NodeT} (X : List NodeT) {h : Nat} {p : KidT × List Ent} (hp : KidOk H h p) : KidOk (H ++ X) h p := by
  obtain ⟨⟨y, k1, k2, k3⟩, k4⟩ := hp
  exact ⟨⟨y, rd_mono X k1, Nd.mono X k2, k3⟩, k4⟩

theorem lowE_append {a b : List Ent} {n : ByteArray} (h : lowE a = some n) : lowE (a ++ b) = some n := by
  cases a with
  | nil => simp [lowE] at h
  | cons e l => exact h

theorem Nd.low {H : List NodeT} : ∀ {h : Nat} {x : NodeT} {es : List Ent}, Nd H h x es → 0 < sizeP x → lowE es = some (lowP x)
  | 0, _, es, h, hs => by
    have h : _ = _ := h
    subst h
    cases es with
    | nil => simp [sizeP] at hs
    | cons e l => rfl
  | h + 1, x, es, ⟨ps, h1, h2, h3⟩, hs => by
    subst h1 h2
    cases ps with
    | nil => simp [sizeP] at hs
    | cons p l =>
      rw [List.flatMap_cons]
      exact lowE_append (h3 p (by simp)).2

theorem sizeP_leaf (es : List Ent) (ks : List KidT) : sizeP ⟨true, es, ks⟩ = es.length := rfl
theorem sizeP_inner (es : List Ent) (ks : List KidT) : sizeP ⟨false, es, ks⟩ = ks.length := rfl

/-- Below which kid a name belongs. -/
theorem below_parts {H : List NodeT} {h : Nat} {ps : List (KidT × List Ent)} (hk : ∀ p ∈ ps, KidOk H h p) (hs : Srt (ps.flatMap (·.2))) (hne : ps ≠ []) (name : ByteArray) :
    ∃ p, ps[belowP (ps.map (·.1)) name]? = some p ∧ ps.flatMap (·.2) = (ps.take (belowP (ps.map (·.1)) name)).flatMap (·.2) ++ p.2 ++ (ps.drop (belowP (ps.map (·.1)) name + 1)).flatMap (·.2) ∧
      (∀ x ∈ (ps.take (belowP (ps.map (·.1)) name)).flatMap (·.2), Ltn x.name name) ∧ ∀ x ∈ (ps.drop (belowP (ps.map (·.1)) name + 1)).flatMap (·.2), Ltn name x.name := by
  obtain ⟨k, h1, h2, h3⟩ := belowP_spec name (ks := ps.map (·.1)) (by simpa using hne)
  generalize belowP (ps.map (·.1)) name = i at h1 h2 h3
  rw [List.getElem?_map] at h1
  cases hp : ps[i]? with
  | none => simp [hp] at h1
  | some p =>
    simp only [hp, Option.map_some, Option.some.injEq] at h1
    subst h1
    obtain ⟨hi, rfl⟩ := List.getElem?_eq_some_iff.1 hp
    have hsplit : ps = ps.take i ++ ps[i] :: ps.drop (i + 1) := by
      rw [← List.drop_eq_getElem_cons hi, List.take_append_drop]
    have hflat : ps.flatMap (·.2) = (ps.take i).flatMap (·.2) ++ ps[i].2 ++ (ps.drop (i + 1)).flatMap (·.2) := by
      conv => lhs; rw [hsplit]
      rw [List.flatMap_append, List.flatMap_cons, List.append_assoc]
    refine ⟨ps[i], rfl, hflat, fun x hx => ?_, fun x hx => ?_⟩
    · rcases h2 with rfl | h2
      · simp at hx
      · have hlow := (hk ps[i] (by simp)).2
        cases hes : ps[i].2 with
        | nil => rw [hes] at hlow; simp [lowE] at hlow
        | cons e l =>
          rw [hes] at hlow hflat
          have hl : e.name = ps[i].1.low := by simpa [lowE] using hlow
          rw [hflat] at hs
          have := (List.pairwise_append.1 (List.pairwise_append.1 hs).1).2.2 x hx e (by simp)
          rw [hl] at this
          exact Ltn.lt_le this h2
    · obtain ⟨q, hq, hxq⟩ := List.mem_flatMap.1 hx
      obtain ⟨j, hj⟩ := List.getElem?_of_mem hq
      rw [List.getElem?_drop] at hj
      have h4 := h3 (i + 1 + j) q.1 (by omega) (by rw [List.getElem?_map, hj]; rfl)
      have hqm : q ∈ ps := List.mem_of_mem_drop hq
      have hlow := (hk q hqm).2
      cases hes : q.2 with
      | nil => rw [hes] at hlow; simp [lowE] at hlow
      | cons e l =>
        rw [hes] at hlow hxq
        have hl : e.name = q.1.low := by simpa [lowE] using hlow
        have hsq : Srt q.2 := by
          obtain ⟨a, b, hab⟩ := List.append_of_mem hqm
          rw [hab, List.flatMap_append, List.flatMap_cons] at hs
          exact (List.pairwise_append.1 (List.pairwise_append.1 hs).2.1).1
        rw [hes] at hsq
        rcases List.mem_cons.1 hxq with rfl | hxl
        · rw [hl]; exact h4
        · have := (List.pairwise_cons.1 hsq).1 x hxl
          rw [hl] at this
          exact h4.trans this

section
variable {A : AProg} (hA : Prg A) (hb : Nat)

theorem lay_ok {h : Nat} : ∀ (ds : List (NodeT × List Ent)) (H : List NodeT) (acc : List KidT), (∀ d ∈ ds, Nd H h d.1 d.2 ∧ 2 ≤ sizeP d.1 ∧ sizeP d.1 ≤ 4) → H.length + ds.length ≤ 20000 →
    ∃ (ps : List (KidT × List Ent)) (X : List NodeT), layA (heapStore hA hb) H acc (ds.map (·.1)) = (.ok (acc ++ ps.map (·.1)), H ++ X) ∧ X.length = ds.length ∧ ps.flatMap (·.2) = ds.flatMap (·.2) ∧ ps.length = ds.length ∧ ∀ p ∈ ps, KidOk (H ++ X) h p
  | [], H, acc, _, _ => ⟨[], [], by simp [layA], rfl, rfl, rfl, by simp⟩
  | d :: ds, H, acc, hd, hl => by
    obtain ⟨k1, k2, k3⟩ := hd d (by simp)
    have hlen : ¬ 20000 ≤ H.length := by simp at hl; omega
    obtain ⟨ps, X, e1, e2, e3, e4, e5⟩ := lay_ok ds (H ++ [d.1]) (acc ++ [⟨lowP d.1, refN H.length⟩]) (fun q hq => by
      obtain ⟨a, b⟩ := hd q (by simp [hq])
      exact ⟨a.mono _, b⟩) (by simp at hl ⊢; omega)
    refine ⟨(⟨lowP d.1, refN H.length⟩, d.2) :: ps, d.1 :: X, ?_, by simp [e2], by simp [e3], by simp [e4], fun p hp => ?_⟩
    · rw [List.map_cons, layA]
      simp only [heapStore, if_neg hlen]
      simp only [heapStore] at e1
      rw [e1]
      simp
    · rw [List.append_cons]
      rcases List.mem_cons.1 hp with rfl | hp
      · exact ⟨⟨d.1, rd_mono X (rd_new H d.1), by rw [List.append_assoc]; exact k1.mono _, k2, k3⟩, k1.low (by omega)⟩
      · exact e5 p hp

theorem at_ok {H : List NodeT} {h : Nat} {x : NodeT} {es : List Ent} {r : RefT} {deep : Nat} (hd : deep ≤ 8) (hr : rd H r = some x) (hx : Nd H h x es) (hs : h = 0 ∨ 0 < sizeP x) : atP (heapStore hA hb) H r deep = (.ok x, H) := by
  unfold atP
  rw [if_neg (by omega)]
  simp only [heapStore, hr]
  rw [if_neg]
  rintro ⟨h1, h2⟩
  cases h with
  | zero =>
    have hx : _ = _ := hx
    subst hx
    simp at h1
  | succ h =>
    rcases hs with hs | hs
    · omega
    · unfold sizeP at hs
      rw [h1, h2] at hs
      simp at hs

theorem splitP_small {x : NodeT} (h : sizeP x ≤ 4) : splitP x = [x] := by unfold splitP; rw [if_neg (by omega)]

/-- A part that has got five parts, halved. -/
theorem split_ok {H : List NodeT} {h : Nat} {x : NodeT} {es : List Ent} (hx : Nd H h x es) (hs : sizeP x ≤ 5) :
    ∃ ds : List (NodeT × List Ent), splitP x = ds.map (·.1) ∧ ds.flatMap (·.2) = es ∧ (∀ d ∈ ds, Nd H h d.1 d.2 ∧ sizeP d.1 ≤ 4 ∧ (ds.length = 1 → sizeP d.1 = sizeP x) ∧ (2 ≤ ds.length → 2 ≤ sizeP d.1)) ∧ (ds.length = 1 ∨ ds.length = 2) := by
  by_cases h4 : sizeP x ≤ 4
  · exact ⟨[(x, es)], splitP_small h4, by simp, by simp [hx, h4], .inl rfl⟩
  · have h5 : sizeP x = 5 := by omega
    unfold splitP halvesP
    rw [if_pos (by omega), h5]
    cases h with
    | zero =>
      have hx : _ = _ := hx
      subst hx
      rw [sizeP_leaf] at h5
      refine ⟨[(⟨true, es.take 3, []⟩, es.take 3), (⟨true, es.drop 3, []⟩, es.drop 3)], by simp, by simp, ?_, .inr rfl⟩
      simp [Nd, sizeP_leaf, h5]
    | succ h =>
      obtain ⟨ps, rfl, rfl, hp⟩ := hx
      rw [sizeP_inner, List.length_map] at h5
      refine ⟨[(⟨false, [], (ps.take 3).map (·.1)⟩, (ps.take 3).flatMap (·.2)), (⟨false, [], (ps.drop 3).map (·.1)⟩, (ps.drop 3).flatMap (·.2))], by simp, ?_, ?_, .inr rfl⟩
      · simp only [List.flatMap_cons, List.flatMap_nil, List.append_nil]
        rw [← List.flatMap_append, List.take_append_drop]
      · intro d hd
        simp only [List.mem_cons, List.not_mem_nil, or_false] at hd
        rcases hd with rfl | rfl
        · exact ⟨⟨ps.take 3, rfl, rfl, fun p h => hp p (List.mem_of_mem_take h)⟩, by simp [sizeP_inner]; omega, by simp, fun _ => by simp [sizeP_inner]; omega⟩
        · exact ⟨⟨ps.drop 3, rfl, rfl, fun p h => hp p (List.mem_of_mem_drop h)⟩, by simp [sizeP_inner]; omega, by simp, fun _ => by simp [sizeP_inner]; omega⟩

theorem putLeaf_ok {es : List Ent} (hs : Srt es) (e : Ent) : putLeaf ⟨true, es, []⟩ e = ⟨true, ins e es, []⟩ ∧ es.length ≤ (ins e es).length ∧ (ins e es).length ≤ es.length + 1 := by
  obtain ⟨h1, h2⟩ := bsP_spec e.name hs
  have hi := bsIs_iff e.name hs
  have hle := bsP_le es e.name
  have hdrop : ∀ l : List Ent, (∀ x ∈ l, ¬ Ltn x.name e.name) → Srt l → l.filter (fun x => decide (Ltn e.name x.name)) = if (∃ x ∈ l, x.name = e.name) then l.drop 1 else l := by
    intro l hl hsl
    cases l with
    | nil => simp
    | cons x l =>
      have hp := List.pairwise_cons.1 hsl
      have hx := hl x (by simp)
      have htl : l.filter (fun x => decide (Ltn e.name x.name)) = l := filter_all fun y hy => by
        simpa using Ltn.le_trans hx (hp.1 y hy)
      by_cases hxe : x.name = e.name
      · have : ∃ y ∈ x :: l, y.name = e.name := ⟨x, by simp, hxe⟩
        rw [if_pos this, List.filter_cons_of_neg (by simpa [hxe] using Ltn.irrefl e.name), htl]
        rfl
      · have hxl : Ltn e.name x.name := Ltn.of_not hx hxe
        have : ¬ ∃ y ∈ x :: l, y.name = e.name := by
          rintro ⟨y, hy, hye⟩
          rcases List.mem_cons.1 hy with rfl | hy
          · exact hxe hye
          · exact (hxl.trans (hp.1 y hy)).ne hye.symm
        rw [if_neg this, List.filter_cons_of_pos (by simpa using hxl), htl]
  have hd := hdrop (es.drop (bsP es e.name)) (fun x hx => by rw [h2] at hx; simpa using (List.mem_filter.1 hx).2) (by rw [h2]; exact hs.filter _)
  have hex : (∃ x ∈ es.drop (bsP es e.name), x.name = e.name) ↔ ∃ x ∈ es, x.name = e.name := by
    constructor
    · rintro ⟨x, hx, h⟩; exact ⟨x, List.mem_of_mem_drop hx, h⟩
    · rintro ⟨x, hx, h⟩
      refine ⟨x, ?_, h⟩
      rw [h2]
      exact List.mem_filter.2 ⟨hx, by rw [h]; simpa using Ltn.irrefl e.name⟩
  have hgt : es.filter (fun x => decide (Ltn e.name x.name)) = (es.drop (bsP es e.name)).filter fun x => decide (Ltn e.name x.name) := by
    conv => lhs; rw [← List.take_append_drop (bsP es e.name) es, List.filter_append]
    rw [filter_none (l := es.take _) fun x hx => by rw [h1] at hx; simpa using (show Ltn x.name e.name by simpa using (List.mem_filter.1 hx).2).asymm, List.nil_append]
  unfold putLeaf ins
  rw [← h1, hgt, hd]
  by_cases hc : bsIs es e.name = true
  · have hlt := bsIs_lt hc
    rw [if_pos hc, if_pos (hex.2 (hi.1 hc)), List.drop_drop]
    refine ⟨by rw [List.set_eq_take_append_cons_drop, if_pos hlt], ?_, ?_⟩ <;> simp <;> omega
  · rw [if_neg hc, if_neg fun h => hc (hi.2 (hex.1 h))]
    refine ⟨rfl, ?_, ?_⟩ <;> simp <;> omega
end
end Go.Proofs.Ytbldkkabkijpgaa

namespace Go.Proofs.Ytbldkkabkijpgaa
open Go.Am

section
variable {A : AProg} (hA : Prg A) (hb : Nat)

theorem put_ok (e : Ent) : ∀ (h u : Nat) (H : List NodeT) (r : RefT) (x : NodeT) (es : List Ent), h < u → rd H r = some x → Nd H h x es → Srt es → sizeP x ≤ 4 → (h = 0 ∨ 0 < sizeP x) → H.length + 2 * h ≤ 20000 →
    ∃ (ds : List (NodeT × List Ent)) (X : List NodeT), putP (heapStore hA hb) e u H r = (.ok (ds.map (·.1)), H ++ X) ∧ X.length ≤ 2 * h ∧ ds.flatMap (·.2) = ins e es ∧
      (∀ d ∈ ds, Nd (H ++ X) h d.1 d.2 ∧ sizeP d.1 ≤ 4 ∧ (ds.length = 1 → sizeP x ≤ sizeP d.1 ∧ (h = 0 → sizeP d.1 = (ins e es).length)) ∧ (2 ≤ ds.length → 2 ≤ sizeP d.1)) ∧ (ds.length = 1 ∨ ds.length = 2)
  | _, 0, _, _, _, _, hu, _, _, _, _, _, _ => by omega
  | 0, u + 1, H, r, x, es, hu, hr, hx, hs, h4, h0, hl => by
    have hat := at_ok hA hb (deep := 8 - u) (by omega) hr hx h0
    have hx : _ = _ := hx
    subst hx
    obtain ⟨hp, hp1, hp2⟩ := putLeaf_ok hs e
    rw [sizeP_leaf] at h4
    have hbig : ¬ (1000 < es.length ∨ 1000 < ([] : List KidT).length) := by simp; omega
    obtain ⟨ds, d1, d2, d3, d4⟩ := split_ok (H := H) (h := 0) (x := ⟨true, ins e es, []⟩) (es := ins e es) rfl (by rw [sizeP_leaf]; omega)
    refine ⟨ds, [], ?_, by simp, d2, fun d hd => ?_, d4⟩
    · rw [putP, hat]
      simp only
      rw [if_neg hbig, if_pos trivial, hp, d1, List.append_nil]
    · obtain ⟨k1, k2, k3, k4⟩ := d3 d hd
      rw [List.append_nil]
      refine ⟨k1, k2, fun h1 => ?_, k4⟩
      rw [k3 h1, sizeP_leaf, sizeP_leaf]
      exact ⟨hp1, fun _ => rfl⟩
  | h + 1, u + 1, H, r, x, es, hu, hr, hx, hs, h4, h0, hl => by
    have hat := at_ok hA hb (deep := 8 - u) (by omega) hr hx h0
    obtain ⟨ps, rfl, rfl, hk⟩ := hx
    have hk : ∀ p ∈ ps, KidOk H h p := hk
    rw [sizeP_inner, List.length_map] at h4 h0
    have hne : ps ≠ [] := by
      rintro rfl
      simp at h0
    obtain ⟨p, hp, hflat, hA1, hC1⟩ := below_parts hk hs hne e.name
    generalize hi : belowP (ps.map (·.1)) e.name = i at hp hflat hA1 hC1
    have hip : i < ps.length := by
      rcases Nat.lt_or_ge i ps.length with h' | h'
      · exact h'
      · simp [List.getElem?_eq_none h'] at hp
    have hpm : p ∈ ps := List.mem_of_getElem? hp
    obtain ⟨⟨y, y1, y2, y3, y4⟩, y5⟩ := hk p hpm
    have hsp : Srt p.2 := by rw [hflat] at hs; exact (List.pairwise_append.1 (List.pairwise_append.1 hs).1).2.1
    obtain ⟨ds, X, e1, e2, e3, e4, e5⟩ := put_ok e h u H p.1.ref y p.2 (by omega) y1 y2 hsp y4 (.inr (by omega)) (by omega)
    have hds : ∀ d ∈ ds, Nd (H ++ X) h d.1 d.2 ∧ 2 ≤ sizeP d.1 ∧ sizeP d.1 ≤ 4 := fun d hd => by
      obtain ⟨k1, k2, k3, k4⟩ := e4 d hd
      refine ⟨k1, ?_, k2⟩
      rcases e5 with h | h
      · have := (k3 h).1; omega
      · exact k4 (by omega)
    obtain ⟨qs, Y, l1, l2, l3, l4, l5⟩ := lay_ok hA hb ds (H ++ X) [] hds (by rw [List.length_append]; omega)
    have hks : (ps.map (·.1))[i]? = some p.1 := by rw [List.getElem?_map, hp]; rfl
    have hbig : ¬ (1000 < ([] : List Ent).length ∨ 1000 < (ps.map (·.1)).length) := by simp; omega
    let ps' := ps.take i ++ qs ++ ps.drop (i + 1)
    have hps' : Nd (H ++ X ++ Y) (h + 1) ⟨false, [], ps'.map (·.1)⟩ (ins e (ps.flatMap (·.2))) := by
      refine ⟨ps', rfl, ?_, fun q hq => ?_⟩
      · rw [hflat, ins_mid hA1 hC1, ← e3, ← l3]
        simp only [ps', List.flatMap_append]
      · show KidOk (H ++ X ++ Y) h q
        simp only [ps', List.mem_append] at hq
        rcases hq with (hq | hq) | hq
        · rw [List.append_assoc]; exact (hk q (List.mem_of_mem_take hq)).mono _
        · exact l5 q hq
        · rw [List.append_assoc]; exact (hk q (List.mem_of_mem_drop hq)).mono _
    have hlen : ps'.length = ps.length - 1 + qs.length := by
      simp only [ps', List.length_append, List.length_take, List.length_drop]
      omega
    obtain ⟨ds', d1, d2, d3, d4⟩ := split_ok hps' (by rw [sizeP_inner, List.length_map, hlen, l4]; omega)
    refine ⟨ds', X ++ Y, ?_, by rw [List.length_append, l2]; omega, d2, fun d hd => ?_, d4⟩
    · rw [putP, hat]
      simp only
      rw [if_neg hbig, if_neg (by simp), hi, hks]
      simp only
      rw [e1]
      simp only
      rw [l1]
      simp only [List.nil_append]
      rw [← List.append_assoc, ← d1]
      simp only [ps', List.map_append, List.map_take, List.map_drop]
    · obtain ⟨k1, k2, k3, k4⟩ := d3 d hd
      rw [← List.append_assoc]
      refine ⟨k1, k2, fun h1 => ⟨?_, by omega⟩, k4⟩
      rw [k3 h1, sizeP_inner, sizeP_inner, List.length_map, List.length_map, hlen, l4]
      omega

/-- A tree: at a height (0: a leaf), with these secrets. -/
structure Tree (H : List NodeT) (h : Nat) (r : RefT) (es : List Ent) : Prop where
  node : ∃ x, rd H r = some x ∧ Nd H h x es ∧ sizeP x ≤ 4 ∧ (h = 0 ∨ 2 ≤ sizeP x)
  srt : Srt es

theorem Tree.mono {H : List NodeT} (X : List NodeT) {h : Nat} {r : RefT} {es : List Ent} (t : Tree H h r es) : Tree (H ++ X) h r es := by
  obtain ⟨⟨x, h1, h2, h3⟩, h4⟩ := t
  exact ⟨⟨x, rd_mono X h1, h2.mono X, h3⟩, h4⟩

theorem flat_min {n : Nat} : ∀ (ps : List (KidT × List Ent)), (∀ p ∈ ps, n ≤ p.2.length) → ps.length * n ≤ (ps.flatMap (·.2)).length
  | [], _ => by simp
  | p :: ps, h => by
    have h1 := h p (by simp)
    have h2 := flat_min ps fun q hq => h q (by simp [hq])
    rw [List.flatMap_cons, List.length_append, List.length_cons, Nat.add_mul]
    omega

/-- How many secrets a tree of a height has at least. -/
theorem Nd.many {H : List NodeT} : ∀ {h : Nat} {x : NodeT} {es : List Ent}, Nd H h x es → 2 ≤ sizeP x → 2 ^ (h + 1) ≤ es.length
  | 0, _, es, hx, hs => by
    have hx : _ = _ := hx
    subst hx
    simpa [sizeP_leaf] using hs
  | h + 1, x, es, ⟨ps, h1, h2, h3⟩, hs => by
    subst h1 h2
    rw [sizeP_inner, List.length_map] at hs
    have := flat_min (n := 2 ^ (h + 1)) ps fun p hp => by
      obtain ⟨⟨y, _, k2, k3, _⟩, _⟩ := h3 p hp
      exact Nd.many k2 k3
    have h2 : 2 * 2 ^ (h + 1) ≤ ps.length * 2 ^ (h + 1) := Nat.mul_le_mul_right _ hs
    rw [Nat.pow_succ]
    omega

theorem Tree.height {H : List NodeT} {h : Nat} {r : RefT} {es : List Ent} (t : Tree H h r es) : h = 0 ∨ 2 ^ (h + 1) ≤ es.length := by
  obtain ⟨⟨x, h1, h2, h3, h4⟩, _⟩ := t
  rcases h4 with h4 | h4
  · exact .inl h4
  · exact .inr (h2.many h4)

theorem Tree.low_height {H : List NodeT} {h : Nat} {r : RefT} {es : List Ent} (t : Tree H h r es) (hn : es.length ≤ 200) : h ≤ 6 := by
  rcases t.height with h0 | h0
  · omega
  · rcases Nat.lt_or_ge 6 h with h' | h'
    · have : 2 ^ 8 ≤ 2 ^ (h + 1) := Nat.pow_le_pow_right (by decide) (by omega)
      omega
    · exact h'

theorem ins_len (e : Ent) (es : List Ent) (hs : Srt es) : es.length ≤ (ins e es).length ∧ (ins e es).length ≤ es.length + 1 := by
  obtain ⟨_, h1, h2⟩ := putLeaf_ok hs e
  exact ⟨h1, h2⟩

/-- What Put makes of a tree. -/
theorem putT_ok (e : Ent) {H : List NodeT} {h : Nat} {r : RefT} {es : List Ent} (t : Tree H h r es) (hh : h ≤ 7) (hl : H.length + 2 * h + 3 ≤ 20000) :
    ∃ (to : RefT) (X : List NodeT) (h' : Nat), putT (heapStore hA hb) H r e = (.ok to, H ++ X) ∧ Tree (H ++ X) h' to (ins e es) ∧ X.length ≤ 2 * h + 3 ∧ h ≤ h' ∧ h' ≤ h + 1 := by
  have hsrt := t.srt.ins e
  obtain ⟨⟨x, h1, h2, h3, h4⟩, hs⟩ := t
  obtain ⟨ds, X, e1, e2, e3, e4, e5⟩ := put_ok hA hb e h 8 H r x es (by omega) h1 h2 hs h3 (by omega) (by omega)
  unfold putT
  rw [e1]
  simp only
  have hlx : ¬ 20000 ≤ (H ++ X).length := by rw [List.length_append]; omega
  rcases e5 with h5 | h5
  · obtain ⟨d, rfl⟩ := List.length_eq_one_iff.1 h5
    obtain ⟨k1, k2, k3, _⟩ := e4 d (by simp)
    obtain ⟨k3, k5⟩ := k3 rfl
    have he : d.2 = ins e es := by simpa using e3
    refine ⟨refN (H ++ X).length, X ++ [d.1], h, ?_, ⟨⟨d.1, ?_, ?_, k2, ?_⟩, hsrt⟩, by simp; omega, Nat.le_refl _, by omega⟩
    · simp only [List.map_cons, List.map_nil]
      simp only [growP, layA, heapStore, if_neg hlx]
      simp
    · rw [← List.append_assoc]; exact rd_new _ _
    · rw [← List.append_assoc, ← he]; exact k1.mono _
    · rcases h4 with h4 | h4
      · exact .inl h4
      · exact .inr (by omega)
  · have hds : ∀ d ∈ ds, Nd (H ++ X) h d.1 d.2 ∧ 2 ≤ sizeP d.1 ∧ sizeP d.1 ≤ 4 := fun d hd => by
      obtain ⟨k1, k2, k3, k4⟩ := e4 d hd
      exact ⟨k1, k4 (by omega), k2⟩
    obtain ⟨qs, Y, l1, l2, l3, l4, l5⟩ := lay_ok hA hb ds (H ++ X) [] hds (by rw [List.length_append]; omega)
    have hly : ¬ 20000 ≤ (H ++ X ++ Y).length := by rw [List.length_append, List.length_append]; omega
    have hq2 : qs.length = 2 := by omega
    refine ⟨refN (H ++ X ++ Y).length, X ++ Y ++ [⟨false, [], qs.map (·.1)⟩], h + 1, ?_, ⟨⟨_, ?_, ⟨qs, rfl, ?_, ?_⟩, ?_, .inr ?_⟩, hsrt⟩, by simp; omega, by omega, Nat.le_refl _⟩
    · match qs, hq2 with
      | [a, b], _ =>
        rw [growP, l1]
        simp only [List.map_cons, List.map_nil, List.nil_append]
        simp only [growP, layA, heapStore, if_neg hly]
        simp
    · rw [← List.append_assoc, ← List.append_assoc]; exact rd_new _ _
    · rw [← e3, ← l3]
    · intro q hq
      rw [← List.append_assoc, ← List.append_assoc]
      exact (l5 q hq).mono _
    · rw [sizeP_inner, List.length_map]; omega
    · rw [sizeP_inner, List.length_map]; omega
end
end Go.Proofs.Ytbldkkabkijpgaa

namespace Go.Proofs.Ytbldkkabkijpgaa
open Go.Am

/-- A tree's pages, each ahead of its kids; the number: 9 less how deep it is. -/
def seen (H : List NodeT) : Nat → RefT → List SeenT
  | 0, _ => []
  | u + 1, r => match rd H r with
    | none => []
    | some x => ⟨(8 - u : Nat), r, x⟩ :: x.ks.flatMap fun k => seen H u k.ref

theorem seen_some {H : List NodeT} {u : Nat} {r : RefT} {x : NodeT} (h : rd H r = some x) : seen H (u + 1) r = ⟨(8 - u : Nat), r, x⟩ :: x.ks.flatMap fun k => seen H u k.ref := by
  rw [seen, h]

theorem flatMap_congr' {α β : Type} {l : List α} {f g : α → List β} (h : ∀ x ∈ l, f x = g x) : l.flatMap f = l.flatMap g := by
  induction l with
  | nil => rfl
  | cons a l ih => rw [List.flatMap_cons, List.flatMap_cons, h a (by simp), ih fun x hx => h x (by simp [hx])]

theorem seen_mono {H : List NodeT} (X : List NodeT) : ∀ {h u : Nat} {r : RefT} {x : NodeT} {es : List Ent}, h < u → rd H r = some x → Nd H h x es → seen (H ++ X) u r = seen H u r
  | _, 0, _, _, _, hu, _, _ => by omega
  | 0, u + 1, r, x, es, hu, hr, hx => by
    have hx : _ = _ := hx
    subst hx
    rw [seen_some hr, seen_some (rd_mono X hr)]
    rfl
  | h + 1, u + 1, r, x, es, hu, hr, hx => by
    obtain ⟨ps, rfl, rfl, hk⟩ := hx
    rw [seen_some hr, seen_some (rd_mono X hr)]
    congr 1
    refine flatMap_congr' fun k hkm => ?_
    obtain ⟨p, hp, rfl⟩ := List.mem_map.1 hkm
    obtain ⟨⟨y, y1, y2, _⟩, _⟩ := hk p hp
    exact seen_mono X (by omega) y1 y2

theorem seen_len {H : List NodeT} : ∀ {h u : Nat} {r : RefT} {x : NodeT} {es : List Ent}, h < u → rd H r = some x → Nd H h x es → 2 ≤ sizeP x → (seen H u r).length + 1 ≤ es.length
  | _, 0, _, _, _, hu, _, _, _ => by omega
  | 0, u + 1, r, x, es, hu, hr, hx, hs => by
    have hx : _ = _ := hx
    subst hx
    rw [seen_some hr]
    simpa [sizeP_leaf] using hs
  | h + 1, u + 1, r, x, es, hu, hr, hx, hs => by
    obtain ⟨ps, rfl, rfl, hk⟩ := hx
    rw [seen_some hr]
    rw [sizeP_inner, List.length_map] at hs
    have key : ∀ (qs : List (KidT × List Ent)), (∀ q ∈ qs, q ∈ ps) → ((qs.map (·.1)).flatMap fun k => seen H u k.ref).length + qs.length ≤ (qs.flatMap (·.2)).length := by
      intro qs
      induction qs with
      | nil => simp
      | cons q qs ih =>
        intro hq
        have h1 := ih fun z hz => hq z (by simp [hz])
        obtain ⟨⟨y, y1, y2, y3, _⟩, _⟩ := hk q (hq q (by simp))
        have h2 := seen_len (u := u) (by omega) y1 y2 y3
        simp only [List.map_cons, List.flatMap_cons, List.length_append, List.length_cons]
        omega
    have := key ps fun q hq => hq
    simp only [List.length_cons]
    omega

theorem Tree.seen_len {H : List NodeT} {h : Nat} {r : RefT} {es : List Ent} (t : Tree H h r es) {u : Nat} (hu : h < u) : 1 ≤ (seen H u r).length ∧ (seen H u r).length ≤ es.length + 1 := by
  obtain ⟨⟨x, h1, h2, h3, h4⟩, _⟩ := t
  obtain ⟨u, rfl⟩ : ∃ v, u = v + 1 := ⟨u - 1, by omega⟩
  refine ⟨by rw [seen_some h1]; simp, ?_⟩
  by_cases hs : 2 ≤ sizeP x
  · have := Proofs.Ytbldkkabkijpgaa.seen_len hu h1 h2 hs
    omega
  · have : h = 0 := by omega
    subst this
    have h2 : _ = _ := h2
    subst h2
    rw [seen_some h1]
    simp

theorem seen_es {H : List NodeT} : ∀ {h u : Nat} {r : RefT} {x : NodeT} {es : List Ent}, h < u → rd H r = some x → Nd H h x es → (seen H u r).flatMap (·.node.es) = es
  | _, 0, _, _, _, hu, _, _ => by omega
  | 0, u + 1, r, x, es, hu, hr, hx => by
    have hx : _ = _ := hx
    subst hx
    rw [seen_some hr]
    simp
  | h + 1, u + 1, r, x, es, hu, hr, hx => by
    obtain ⟨ps, rfl, rfl, hk⟩ := hx
    rw [seen_some hr, List.flatMap_cons, List.flatMap_assoc, List.flatMap_map, List.nil_append]
    refine flatMap_congr' fun p hp => ?_
    obtain ⟨⟨y, y1, y2, _⟩, _⟩ := hk p hp
    exact seen_es (by omega) y1 y2

section
variable {A : AProg} (hA : Prg A) (hb : Nat)

theorem allKids_ok {u : Nat} {H : List NodeT} : ∀ (ks : List KidT) (l : List SeenT), (∀ k ∈ ks, ∀ l, allP (heapStore hA hb) u H l k.ref = (.ok (l ++ seen H u k.ref), H)) →
    allKids (allP (heapStore hA hb) u) H l ks = (.ok (l ++ ks.flatMap fun k => seen H u k.ref), H)
  | [], l, _ => by simp [allKids]
  | k :: ks, l, h => by
    rw [allKids, h k (by simp) l]
    simp only
    rw [allKids_ok ks _ fun q hq => h q (by simp [hq])]
    simp

theorem all_ok {H : List NodeT} : ∀ {h u : Nat} {r : RefT} {x : NodeT} {es : List Ent}, h < u → rd H r = some x → Nd H h x es → (h = 0 ∨ 0 < sizeP x) → ∀ l, allP (heapStore hA hb) u H l r = (.ok (l ++ seen H u r), H)
  | _, 0, _, _, _, hu, _, _, _, _ => by omega
  | 0, u + 1, r, x, es, hu, hr, hx, h0, l => by
    have hat := at_ok hA hb (deep := 8 - u) (by omega) hr hx h0
    rw [allP, hat]
    simp only
    have hx : _ = _ := hx
    subst hx
    rw [allKids_ok hA hb _ _ (by simp), seen_some hr]
    simp
  | h + 1, u + 1, r, x, es, hu, hr, hx, h0, l => by
    have hat := at_ok hA hb (deep := 8 - u) (by omega) hr hx h0
    rw [allP, hat]
    simp only
    obtain ⟨ps, rfl, rfl, hk⟩ := hx
    rw [allKids_ok hA hb _ _ fun k hkm l => ?_, seen_some hr]
    · simp
    · obtain ⟨p, hp, rfl⟩ := List.mem_map.1 hkm
      obtain ⟨⟨y, y1, y2, y3, _⟩, _⟩ := hk p hp
      exact all_ok (by omega) y1 y2 (.inr (by omega)) l

theorem Tree.all {H : List NodeT} {h : Nat} {r : RefT} {es : List Ent} (t : Tree H h r es) (hh : h ≤ 7) : allP (heapStore hA hb) 8 H [] r = (.ok (seen H 8 r), H) := by
  obtain ⟨⟨x, h1, h2, h3, h4⟩, _⟩ := t
  exact all_ok hA hb (by omega) h1 h2 (by omega) []
end

/-- What Move did to a row of pages: some stand as they stood, so many were laid down anew. -/
inductive Mvd (segs : List Int) : List SeenT → List SeenT → Nat → Prop where
  | nil : Mvd segs [] [] 0
  | old {a l l' n} (h : a.ref.seg ∉ segs) (t : Mvd segs l l' n) : Mvd segs (a :: l) (a :: l') n
  | new {a b l l' n} (h1 : b.deep = a.deep) (h2 : b.node.leaf = a.node.leaf) (h3 : b.node.es = a.node.es) (h4 : b.node.ks.map (·.low) = a.node.ks.map (·.low)) (h5 : b.ref ≠ a.ref) (t : Mvd segs l l' n) :
      Mvd segs (a :: l) (b :: l') (n + 1)

theorem Mvd.append {segs a a' n b b' m} (h : Mvd segs a a' n) (k : Mvd segs b b' m) : Mvd segs (a ++ b) (a' ++ b') (n + m) := by
  induction h with
  | nil => simpa using k
  | old h t ih => exact .old h ih
  | new h1 h2 h3 h4 h5 t ih => rw [Nat.add_right_comm]; exact .new h1 h2 h3 h4 h5 ih

theorem Mvd.zero {segs a a'} (h : Mvd segs a a' 0) : a' = a := by
  generalize hn : 0 = n at h
  induction h with
  | nil => rfl
  | old h t ih => rw [ih hn]
  | new => omega

section
variable {A : AProg} (hA : Prg A) (hb : Nat)

/-- What is shown of Move at a height. -/
def MoveAt (segs : List Int) (h u : Nat) : Prop := ∀ (H : List NodeT) (r : RefT) (x : NodeT) (es : List Ent), rd H r = some x → Nd H h x es → (h = 0 ∨ 0 < sizeP x) → H.length + (seen H u r).length ≤ 20000 →
  ∃ (to : RefT) (n : Nat) (X : List NodeT) (y : NodeT), moveP (heapStore hA hb) segs u H r = (.ok (to, (n : Int)), H ++ X) ∧ X.length = n ∧ n ≤ (seen H u r).length ∧ rd (H ++ X) to = some y ∧ Nd (H ++ X) h y es ∧ sizeP y = sizeP x ∧
    Mvd segs (seen H u r) (seen (H ++ X) u to) n

theorem moveKids_ok {segs : List Int} {h u : Nat} (ih : MoveAt hA hb segs h u) (hu : h < u) : ∀ (ps : List (KidT × List Ent)) (H : List NodeT) (dn : List KidT) (n : Nat), (∀ p ∈ ps, KidOk H h p) → H.length + ((ps.map (·.1)).flatMap fun k => seen H u k.ref).length ≤ 20000 → n + ((ps.map (·.1)).flatMap fun k => seen H u k.ref).length ≤ 20000 →
    ∃ (qs : List (KidT × List Ent)) (X : List NodeT) (m : Nat), moveKids (moveP (heapStore hA hb) segs u) H dn n (ps.map (·.1)) = (.ok (dn ++ qs.map (·.1), ((n + m : Nat) : Int)), H ++ X) ∧ X.length = m ∧
      m ≤ ((ps.map (·.1)).flatMap fun k => seen H u k.ref).length ∧ qs.flatMap (·.2) = ps.flatMap (·.2) ∧ qs.map (·.1.low) = ps.map (·.1.low) ∧ (∀ q ∈ qs, KidOk (H ++ X) h q) ∧
      Mvd segs ((ps.map (·.1)).flatMap fun k => seen H u k.ref) ((qs.map (·.1)).flatMap fun k => seen (H ++ X) u k.ref) m
  | [], H, dn, n, _, _, _ => ⟨[], [], 0, by simp [moveKids], rfl, by simp, rfl, rfl, by simp, .nil⟩
  | p :: ps, H, dn, n, hk, hl, hn => by
    obtain ⟨⟨y, y1, y2, y3, y4⟩, y5⟩ := hk p (by simp)
    simp only [List.map_cons, List.flatMap_cons, List.length_append] at hl hn
    obtain ⟨to, m, X, z, e1, e2, e3, e4, e5, e6, e7⟩ := ih H p.1.ref y p.2 y1 y2 (.inr (by omega)) (by omega)
    have hmono : ∀ q ∈ ps, seen (H ++ X) u q.1.ref = seen H u q.1.ref := fun q hq => by
      obtain ⟨⟨w, w1, w2, _⟩, _⟩ := hk q (by simp [hq])
      exact seen_mono X hu w1 w2
    have hfl : ((ps.map (·.1)).flatMap fun k => seen (H ++ X) u k.ref) = (ps.map (·.1)).flatMap fun k => seen H u k.ref := by
      rw [List.flatMap_map, List.flatMap_map]
      exact flatMap_congr' hmono
    have hw : IntKind.i64.wrap ((n : Int) + (m : Int)) = ((n + m : Nat) : Int) := by rw [wrap_in (by omega) (by omega)]; omega
    obtain ⟨qs, Y, k, f1, f2, f3, f4, f5, f6, f7⟩ := moveKids_ok ih hu ps (H ++ X) (dn ++ [⟨p.1.low, to⟩]) (n + m) (fun q hq => (hk q (by simp [hq])).mono X) (by rw [hfl, List.length_append]; omega) (by rw [hfl]; omega)
    rw [hfl] at f3 f7
    have hz : seen (H ++ X ++ Y) u to = seen (H ++ X) u to := seen_mono Y hu e4 e5
    refine ⟨(⟨p.1.low, to⟩, p.2) :: qs, X ++ Y, m + k, ?_, by rw [List.length_append]; omega, ?_, ?_, ?_, ?_, ?_⟩
    · rw [List.map_cons, moveKids, e1]
      simp only
      rw [hw, f1]
      simp [Nat.add_assoc]
    · simp only [List.map_cons, List.flatMap_cons, List.length_append]; omega
    · simp [f4]
    · simp [f5]
    · intro q hq
      rcases List.mem_cons.1 hq with rfl | hq
      · refine ⟨⟨z, ?_, ?_, by omega, by omega⟩, y5⟩
        · rw [← List.append_assoc]; exact rd_mono Y e4
        · rw [← List.append_assoc]; exact e5.mono Y
      · rw [← List.append_assoc]; exact f6 q hq
    · simp only [List.map_cons, List.flatMap_cons]
      rw [← List.append_assoc, hz]
      exact e7.append f7

theorem move_ok (segs : List Int) : ∀ (h u : Nat), h < u → MoveAt hA hb segs h u
  | _, 0, hu => by omega
  | 0, u + 1, hu => by
    intro H r x es hr hx h0 hl
    have hat := at_ok hA hb (deep := 8 - u) (by omega) hr hx h0
    have hx : _ = _ := hx
    subst hx
    have hss := seen_some (u := u) hr
    rw [moveP, hat]
    simp only [moveKids]
    by_cases hs : r.seg ∈ segs
    · rw [if_neg (by simp [hs])]
      have hlen : ¬ 20000 ≤ H.length := by rw [hss] at hl; simp at hl; omega
      refine ⟨refN H.length, 1, [⟨true, es, []⟩], ⟨true, es, []⟩, ?_, rfl, by rw [hss]; simp, rd_new _ _, rfl, rfl, ?_⟩
      · simp only [heapStore, if_neg hlen]
        rfl
      · rw [hss, seen_some (rd_new H ⟨true, es, []⟩)]
        refine .new rfl rfl rfl rfl (fun e => ?_) .nil
        obtain ⟨k, hk, rfl, _⟩ := rd_some hr
        have := refN_inj e
        omega
    · rw [if_pos ⟨trivial, hs⟩]
      refine ⟨r, 0, [], ⟨true, es, []⟩, by simp, rfl, Nat.zero_le _, by rw [List.append_nil]; exact hr, rfl, rfl, ?_⟩
      rw [List.append_nil, hss]
      exact .old hs .nil
  | h + 1, u + 1, hu => by
    intro H r x es hr hx h0 hl
    have hat := at_ok hA hb (deep := 8 - u) (by omega) hr hx h0
    obtain ⟨ps, rfl, rfl, hk⟩ := hx
    have hss := seen_some (u := u) hr
    rw [hss] at hl
    simp only [List.length_cons] at hl
    obtain ⟨qs, X, m, f1, f2, f3, f4, f5, f6, f7⟩ := moveKids_ok hA hb (move_ok segs h u (by omega)) (by omega) ps H [] 0 hk (by omega) (by omega)
    rw [moveP, hat]
    simp only
    simp only [Nat.zero_add, List.nil_append, Int.ofNat_zero] at f1
    have f1' : moveKids (moveP (heapStore hA hb) segs u) H [] 0 (ps.map (·.1)) = (.ok (qs.map (·.1), (m : Int)), H ++ X) := f1
    rw [f1']
    simp only
    by_cases hs : (m : Int) = 0 ∧ r.seg ∉ segs
    · rw [if_pos hs]
      have hm : m = 0 := by omega
      subst hm
      have hX : X = [] := List.eq_nil_of_length_eq_zero f2
      subst hX
      refine ⟨r, 0, [], _, rfl, rfl, Nat.zero_le _, by rw [List.append_nil]; exact hr, ⟨ps, rfl, rfl, fun p hp => KidOk.mono [] (hk p hp)⟩, rfl, ?_⟩
      rw [List.append_nil, hss]
      refine .old hs.2 ?_
      rw [f7.zero] at f7
      exact f7
    · rw [if_neg hs]
      have hlen : ¬ 20000 ≤ (H ++ X).length := by rw [List.length_append]; omega
      have hw : IntKind.i64.wrap ((m : Int) + 1) = ((m + 1 : Nat) : Int) := wrap_up (by omega)
      have hql : qs.length = ps.length := by have := congrArg List.length f5; simpa using this
      have hnew := rd_new (H ++ X) ⟨false, [], qs.map (·.1)⟩
      refine ⟨refN (H ++ X).length, m + 1, X ++ [⟨false, [], qs.map (·.1)⟩], ⟨false, [], qs.map (·.1)⟩, ?_, by simp [f2], by rw [hss]; simp only [List.length_cons]; omega, by rw [← List.append_assoc]; exact hnew,
        ⟨qs, rfl, f4.symm, fun q hq => by rw [← List.append_assoc]; exact (f6 q hq).mono _⟩, by simp [sizeP_inner, hql], ?_⟩
      · simp only [heapStore, if_neg hlen, hw]
        simp
      · rw [hss, ← List.append_assoc, seen_some hnew]
        refine .new rfl rfl rfl ?_ (fun e => ?_) ?_
        · simp only [List.map_map]
          exact f5
        · obtain ⟨k, hk', rfl, _⟩ := rd_some hr
          have := refN_inj e
          rw [List.length_append] at this
          omega
        · have : ((qs.map (·.1)).flatMap fun k => seen (H ++ X ++ [⟨false, [], qs.map (·.1)⟩]) u k.ref) = (qs.map (·.1)).flatMap fun k => seen (H ++ X) u k.ref := by
            rw [List.flatMap_map, List.flatMap_map]
            refine flatMap_congr' fun q hq => ?_
            obtain ⟨⟨w, w1, w2, _⟩, _⟩ := f6 q hq
            exact seen_mono _ (by omega) w1 w2
          rw [this]
          exact f7

/-- What Move makes of a tree. -/
theorem Tree.move (segs : List Int) {H : List NodeT} {h : Nat} {r : RefT} {es : List Ent} (t : Tree H h r es) (hh : h ≤ 7) (hl : H.length + es.length + 1 ≤ 20000) :
    ∃ (to : RefT) (n : Nat) (X : List NodeT), moveP (heapStore hA hb) segs 8 H r = (.ok (to, (n : Int)), H ++ X) ∧ X.length = n ∧ n ≤ es.length + 1 ∧ Tree (H ++ X) h to es ∧ Mvd segs (seen H 8 r) (seen (H ++ X) 8 to) n := by
  have hsl := t.seen_len (u := 8) (by omega)
  obtain ⟨⟨x, h1, h2, h3, h4⟩, hs⟩ := t
  obtain ⟨to, n, X, y, e1, e2, e3, e4, e5, e6, e7⟩ := move_ok hA hb segs h 8 (by omega) H r x es h1 h2 (by omega) (by omega)
  exact ⟨to, n, X, e1, e2, by omega, ⟨⟨y, e4, e5, by omega, by omega⟩, hs⟩, e7⟩
end
end Go.Proofs.Ytbldkkabkijpgaa

namespace Go.Proofs.Ytbldkkabkijpgaa
open Go.Am

/-- The secrets of pages that are so. -/
def secP (p : Ent → Bool) (l : List SeenT) : List Ent := l.flatMap fun s => if s.node.leaf then s.node.es.filter p else []

set_option linter.unusedSimpArgs false
section
variable {A : AProg} (hA : Prg A)
include hA

/-- slices.Clip. -/
theorem c101 {D N σ v} {xs : List Ent} (h : Own entK D σ N v xs) {R : Value → AHeap → Prop} (hR : ∀ v', SlR entK D σ v' xs → R v' σ) : C A 101 [v] σ R := by
  refine C_fn s101 (hA.at rfl) ?_
  have hs := h.sl
  cases h with
  | nil =>
    simp only [s101, sx, argsFr, Sq, SI.wanted, AFr.ev, AFr.evV, AFr.get, AFr.box, AFr.put, AFr.setb, AV.val, callee, evArgs, aBin, aUn, oneCell, cellsOf, Value.cells, evParts, evElems, evAll, fillP, zeros, RetK, resAll, resOf, tupleOf, bnd, intOf?, AFr.keep, RefT.cells, undef, Nat.reduceBEq, Nat.reduceAdd, Nat.reduceMul, Nat.reduceLeDiff, Nat.reduceEqDiff, reduceCtorEq, Int.reduceEq, Int.reduceLT, Int.reduceLE, Int.reduceAdd, Int.reduceSub, stepOp.eq_20]
    exact hR _ .nil
  | emp b off =>
    have h1 : (0 : Int) ≤ ((0 : Nat) : Int) := by decide
    simp only [s101, sx, argsFr, Sq, SI.wanted, AFr.ev, AFr.evV, AFr.get, AFr.box, AFr.put, AFr.setb, AV.val, callee, evArgs, aBin, aUn, oneCell, cellsOf, Value.cells, evParts, evElems, evAll, fillP, zeros, RetK, resAll, resOf, tupleOf, bnd, intOf?, AFr.keep, RefT.cells, undef, Nat.reduceBEq, Nat.reduceAdd, Nat.reduceMul, Nat.reduceLeDiff, Nat.reduceEqDiff, reduceCtorEq, Int.reduceEq, Int.reduceLT, Int.reduceLE, Int.reduceAdd, Int.reduceSub, stepOp.eq_20, Int.ofNat_zero]
    exact hR _ (.emp b _ 0 (.inl rfl))
  | row b cs hn hD hb hl hc =>
    have h1 : (0 : Int) ≤ (xs.length : Int) ∧ (xs.length : Int) ≤ (xs.length : Int) := by omega
    simp only [s101, sx, argsFr, Sq, SI.wanted, AFr.ev, AFr.evV, AFr.get, AFr.box, AFr.put, AFr.setb, AV.val, callee, evArgs, aBin, aUn, oneCell, cellsOf, Value.cells, evParts, evElems, evAll, fillP, zeros, RetK, resAll, resOf, tupleOf, bnd, intOf?, AFr.keep, RefT.cells, undef, Nat.reduceBEq, Nat.reduceAdd, Nat.reduceMul, Nat.reduceLeDiff, Nat.reduceEqDiff, reduceCtorEq, Int.reduceEq, Int.reduceLT, Int.reduceLE, Int.reduceAdd, Int.reduceSub, stepOp.eq_20, h1]
    exact hR _ (.row b 0 _ cs _ _ hn (.inl rfl) hD hb (by omega) (Kd.list_step (by simpa using hc) ⟨Nat.le_refl _, fun _ _ _ => rfl, fun _ _ hd => by simp [hd]⟩))

theorem c69 {D N σ v} {xs : List ByteArray} (h : Own strK D σ N v xs) {R : Value → AHeap → Prop} (hR : ∀ v', SlR strK D σ v' xs → R v' σ) : C A 69 [v] σ R := by
  refine C_fn s69 (hA.at rfl) ?_
  have hs := h.sl
  cases h with
  | nil =>
    simp only [s69, sx, argsFr, Sq, SI.wanted, AFr.ev, AFr.evV, AFr.get, AFr.box, AFr.put, AFr.setb, AV.val, callee, evArgs, aBin, aUn, oneCell, cellsOf, Value.cells, evParts, evElems, evAll, fillP, zeros, RetK, resAll, resOf, tupleOf, bnd, intOf?, AFr.keep, RefT.cells, undef, Nat.reduceBEq, Nat.reduceAdd, Nat.reduceMul, Nat.reduceLeDiff, Nat.reduceEqDiff, reduceCtorEq, Int.reduceEq, Int.reduceLT, Int.reduceLE, Int.reduceAdd, Int.reduceSub, stepOp.eq_20]
    exact hR _ .nil
  | emp b off =>
    simp only [s69, sx, argsFr, Sq, SI.wanted, AFr.ev, AFr.evV, AFr.get, AFr.box, AFr.put, AFr.setb, AV.val, callee, evArgs, aBin, aUn, oneCell, cellsOf, Value.cells, evParts, evElems, evAll, fillP, zeros, RetK, resAll, resOf, tupleOf, bnd, intOf?, AFr.keep, RefT.cells, undef, Nat.reduceBEq, Nat.reduceAdd, Nat.reduceMul, Nat.reduceLeDiff, Nat.reduceEqDiff, reduceCtorEq, Int.reduceEq, Int.reduceLT, Int.reduceLE, Int.reduceAdd, Int.reduceSub, stepOp.eq_20, Int.ofNat_zero]
    exact hR _ (.emp b _ 0 (.inl rfl))
  | row b cs hn hD hb hl hc =>
    have h1 : (0 : Int) ≤ (xs.length : Int) ∧ (xs.length : Int) ≤ (xs.length : Int) := by omega
    simp only [s69, sx, argsFr, Sq, SI.wanted, AFr.ev, AFr.evV, AFr.get, AFr.box, AFr.put, AFr.setb, AV.val, callee, evArgs, aBin, aUn, oneCell, cellsOf, Value.cells, evParts, evElems, evAll, fillP, zeros, RetK, resAll, resOf, tupleOf, bnd, intOf?, AFr.keep, RefT.cells, undef, Nat.reduceBEq, Nat.reduceAdd, Nat.reduceMul, Nat.reduceLeDiff, Nat.reduceEqDiff, reduceCtorEq, Int.reduceEq, Int.reduceLT, Int.reduceLE, Int.reduceAdd, Int.reduceSub, stepOp.eq_20, h1]
    exact hR _ (.row b 0 _ cs _ _ hn (.inl rfl) hD hb (by omega) (Kd.list_step (by simpa using hc) ⟨Nat.le_refl _, fun _ _ _ => rfl, fun _ _ hd => by simp [hd]⟩))

variable {S : Type} (P : Store A S)

theorem c60 {D0 N σ s s' g caps} {r : RefT} {p : Ent → Bool} {l : List SeenT} {Bk : List Nat} (hh : P.is D0 N σ s) (hD : ∀ b ∈ D0, b < σ.size) (hBk : ∀ b ∈ Bk, b < σ.size ∧ b ∉ N)
    (hp : ∀ (τ : AHeap), (∀ b ∈ Bk, τ[b]? = σ[b]?) → ∀ (D : List Nat) (v : Value) (e : Ent), SlR verK D τ v e.vs → ∀ (R : Value → AHeap → Prop), (∀ τ', Mv [] τ [] τ' → R (.bool (p e)) τ') → C A g (.agg #[.string e.name, v] :: caps) τ R)
    (hok : allP P 8 s [] r = (.ok l, s')) (hbd : l.length ≤ 100000) (hes : ∀ x ∈ l, x.node.es.length ≤ 1000) {R : Value → AHeap → Prop}
    (hR : ∀ v' N' σ', P.is D0 N' σ' s' → SlR entK (N' ++ D0) σ' v' (secP p l) → Mv N σ N' σ' → R (.tuple #[v', .int .i64 0]) σ') :
    C A 60 [.iface P.ti P.pv, .agg #[.int .u64 r.key, .int .i64 r.seg, .int .i64 r.off, .int .i64 r.len], .func (.func g) #[] caps.toArray] σ R := by
  refine C_fn s60 (hA.at rfl) ?_
  simp only [s60, sx, argsFr, Sq, SI.wanted, AFr.ev, AFr.evV, AFr.get, AFr.box, AFr.put, AFr.setb, AV.val, callee, evArgs, aBin, aUn, oneCell, cellsOf, Value.cells, evParts, evElems, evAll, fillP, zeros, RetK, resAll, resOf, tupleOf, bnd, intOf?, AFr.keep, RefT.cells, undef, Nat.reduceBEq, Nat.reduceAdd, Nat.reduceMul, Nat.reduceLeDiff, Nat.reduceEqDiff, reduceCtorEq, Int.reduceEq, Int.reduceLT, Int.reduceLE, Int.reduceAdd, Int.reduceSub]
  refine Or.inl (c18 hA P hh hD hok (by omega) (fun v1 Nl N1 σ1 hi1 ho1 hm1 => ?_))
  obtain ⟨b1, c1, rfl⟩ := ho1.shape
  simp only [sx, argsFr, Sq, SI.wanted, AFr.ev, AFr.evV, AFr.get, AFr.box, AFr.put, AFr.setb, AV.val, callee, evArgs, aBin, aUn, oneCell, cellsOf, Value.cells, evParts, evElems, evAll, fillP, zeros, RetK, resAll, resOf, tupleOf, bnd, intOf?, AFr.keep, RefT.cells, undef, Nat.reduceBEq, Nat.reduceAdd, Nat.reduceMul, Nat.reduceLeDiff, Nat.reduceEqDiff, reduceCtorEq, Int.reduceEq, Int.reduceLT, Int.reduceLE, Int.reduceAdd, Int.reduceSub]
  have sh : ∀ {X Y : List Nat} {τ : AHeap}, (∀ q ∈ Y, q ∈ X) → Mv X τ Y τ := fun {X Y τ} h => ⟨Nat.le_refl _, fun _ _ _ => rfl, fun q _ hq => h q hq⟩
  have hi1' : P.is D0 N1 σ1 s' := P.step hi1 (sh (fun q hq => by simp [hq]))
  have hm1' : Mv N σ N1 σ1 := hm1.trans (sh (fun q hq => by simp [hq]))
  have hl1 := ho1.sl
  have hDN : ∀ q ∈ N1 ++ D0, q < σ1.size := lt_app (fun q hq => P.lt hi1' q hq) hD hm1.size
  have hfl : ∀ (i : Nat), (secP p (l.take i)).length ≤ i * 1000 := by
    intro i
    induction i with
    | zero => simp [secP]
    | succ i ih =>
      by_cases hi : i < l.length
      · have h1 := hes l[i] (by simp)
        have h2 := List.length_filter_le p l[i].node.es
        have h3 : (secP p (l.take (i + 1))).length = (secP p (l.take i)).length + (if l[i].node.leaf then l[i].node.es.filter p else []).length := by
          rw [List.take_succ_eq_append_getElem hi]
          simp only [secP, List.flatMap_append, List.length_append, List.flatMap_cons, List.flatMap_nil, List.append_nil]
        have h4 : (if l[i].node.leaf then l[i].node.es.filter p else []).length ≤ 1000 := by
          split
          · omega
          · simp
        omega
      · have e1 : l.take (i + 1) = l := List.take_of_length_le (by omega)
        have e2 : l.take i = l := List.take_of_length_le (by omega)
        rw [e2] at ih
        rw [e1, Nat.add_mul]
        exact Nat.le_trans ih (Nat.le_add_right _ _)
  refine Lp_ind (fun i => l.length - i) (fun i f τ => ∃ v No, f.keep [2, 10, 24, 25, 26] [] = some ⟨[(2, .v (.func (.func g) #[] caps.toArray)), (10, .v v), (24, .v (.slice b1 l.length c1)), (25, .v (.int .i64 l.length)), (26, .v (.int .i64 i))], []⟩ ∧
    i ≤ l.length ∧ Own entK (N1 ++ D0) τ No v (secP p (l.take i)) ∧ Mv [] σ1 No τ) ?_ 0 _ _ ⟨_, [], rfl, Nat.zero_le _, .nil, Mv.refl _ _⟩
  rintro i f τ ⟨v, No, hkp, hi, ho, hm⟩ ih
  rw [St_seq, St_keep hkp]
  clear hkp
  simp only [sx, argsFr, Sq, SI.wanted, AFr.ev, AFr.evV, AFr.get, AFr.box, AFr.put, AFr.setb, AV.val, callee, evArgs, aBin, aUn, oneCell, cellsOf, Value.cells, evParts, evElems, evAll, fillP, zeros, RetK, resAll, resOf, tupleOf, bnd, intOf?, AFr.keep, RefT.cells, undef, Nat.reduceBEq, Nat.reduceAdd, Nat.reduceMul, Nat.reduceLeDiff, Nat.reduceEqDiff, reduceCtorEq, Int.reduceEq, Int.reduceLT, Int.reduceLE, Int.reduceAdd, Int.reduceSub]
  refine Cd_split (fun hc => ?_) (fun hc => ?_)
  · have hi' : i < l.length := by simpa using hc
    have hlτ := hl1.step (hm.mono (E := N1 ++ D0) (E' := No ++ (N1 ++ D0)) (by simp) (fun q hq => by simpa [or_assoc] using hq))
    obtain ⟨p1, o1, cs1, e1, m1, cells1, rfl, hb1, hcut1, ve1, vk1, rfl, hes1, hks1⟩ := hlτ.atN (j := 8) rfl (List.getElem?_eq_getElem hi')
    obtain ⟨b5, c5, rfl⟩ := hes1.shape
    obtain ⟨b6, c6, rfl⟩ := hks1.shape
    have hel := hes l[i] (by simp)
    have hfi := hfl i
    simp only [sx, argsFr, Sq, SI.wanted, AFr.ev, AFr.evV, AFr.get, AFr.box, AFr.put, AFr.setb, AV.val, callee, evArgs, aBin, aUn, oneCell, cellsOf, Value.cells, evParts, evElems, evAll, fillP, zeros, RetK, resAll, resOf, tupleOf, bnd, intOf?, AFr.keep, RefT.cells, undef, Nat.reduceBEq, Nat.reduceAdd, Nat.reduceMul, Nat.reduceLeDiff, Nat.reduceEqDiff, reduceCtorEq, Int.reduceEq, Int.reduceLT, Int.reduceLE, Int.reduceAdd, Int.reduceSub, hi', hb1, hcut1]
    refine Lp_ind (fun j => l[i].node.es.length - j) (fun j f τ2 => ∃ v No2, f.keep [2, 10, 12, 24, 25, 26, 32, 33, 34] [12] =
        some ⟨[(2, .v (.func (.func g) #[] caps.toArray)), (10, .v v), (12, .l 12 0), (24, .v (.slice (some ⟨p1, o1, none⟩) l.length c1)), (25, .v (.int .i64 l.length)), (26, .v (.int .i64 i)), (32, .v (.slice b5 l[i].node.es.length c5)), (33, .v (.int .i64 l[i].node.es.length)), (34, .v (.int .i64 j))],
          [(12, [.int .i64 l[i].deep, .int .u64 l[i].ref.key, .int .i64 l[i].ref.seg, .int .i64 l[i].ref.off, .int .i64 l[i].ref.len, .bool l[i].node.leaf, .slice b5 l[i].node.es.length c5, .slice b6 l[i].node.ks.length c6])]⟩ ∧
      j ≤ l[i].node.es.length ∧ Own entK (N1 ++ D0) τ2 No2 v (secP p (l.take i) ++ if l[i].node.leaf then (l[i].node.es.take j).filter p else []) ∧ Mv [] σ1 No2 τ2 ∧ SlR entK (No2 ++ (N1 ++ D0)) τ2 (.slice b5 l[i].node.es.length c5) l[i].node.es) ?_ 0 _ _
        ⟨_, No, rfl, Nat.zero_le _, by simpa using ho, hm, hes1⟩
    clear ho hm hes1 hlτ hcut1 hb1 hks1
    rintro j f τ2 ⟨v, No2, hkp, hj, ho2, hm2, hes2⟩ ihj
    rw [St_seq, St_keep hkp]
    clear hkp
    simp only [sx, argsFr, Sq, SI.wanted, AFr.ev, AFr.evV, AFr.get, AFr.box, AFr.put, AFr.setb, AV.val, callee, evArgs, aBin, aUn, oneCell, cellsOf, Value.cells, evParts, evElems, evAll, fillP, zeros, RetK, resAll, resOf, tupleOf, bnd, intOf?, AFr.keep, RefT.cells, undef, Nat.reduceBEq, Nat.reduceAdd, Nat.reduceMul, Nat.reduceLeDiff, Nat.reduceEqDiff, reduceCtorEq, Int.reduceEq, Int.reduceLT, Int.reduceLE, Int.reduceAdd, Int.reduceSub]
    refine Cd_split (fun hc2 => ?_) (fun hc2 => ?_)
    · have hj' : j < l[i].node.es.length := by simpa using hc2
      obtain ⟨p2, o2, cs2, e2, m2, cells2, rfl, hb2, hcut2, ve2, rfl, hvs⟩ := hes2.atN (j := 2) rfl (List.getElem?_eq_getElem hj')
      obtain ⟨b7, c7, rfl⟩ := hvs.shape
      simp only [sx, argsFr, Sq, SI.wanted, AFr.ev, AFr.evV, AFr.get, AFr.box, AFr.put, AFr.setb, AV.val, callee, evArgs, aBin, aUn, oneCell, cellsOf, Value.cells, evParts, evElems, evAll, fillP, zeros, RetK, resAll, resOf, tupleOf, bnd, intOf?, AFr.keep, RefT.cells, undef, Nat.reduceBEq, Nat.reduceAdd, Nat.reduceMul, Nat.reduceLeDiff, Nat.reduceEqDiff, reduceCtorEq, Int.reduceEq, Int.reduceLT, Int.reduceLE, Int.reduceAdd, Int.reduceSub, hj', hb2, hcut2]
      have hwr : IntKind.i64.wrap ((j : Int) + 1) = ((j + 1 : Nat) : Int) := wrap_up (show j ≤ 1000000000000000 by omega)
      cases hlf : l[i].node.leaf with
      | false =>
        simp only [sx, argsFr, Sq, SI.wanted, AFr.ev, AFr.evV, AFr.get, AFr.box, AFr.put, AFr.setb, AV.val, callee, evArgs, aBin, aUn, oneCell, cellsOf, Value.cells, evParts, evElems, evAll, fillP, zeros, RetK, resAll, resOf, tupleOf, bnd, intOf?, AFr.keep, RefT.cells, undef, Nat.reduceBEq, Nat.reduceAdd, Nat.reduceMul, Nat.reduceLeDiff, Nat.reduceEqDiff, reduceCtorEq, Int.reduceEq, Int.reduceLT, Int.reduceLE, Int.reduceAdd, Int.reduceSub]
        refine ihj (j + 1) _ _ (by omega) ⟨v, No2, ?_, by omega, by simpa [hlf] using ho2, hm2, hes2⟩
        simp only [sx, argsFr, Sq, SI.wanted, AFr.ev, AFr.evV, AFr.get, AFr.box, AFr.put, AFr.setb, AV.val, callee, evArgs, aBin, aUn, oneCell, cellsOf, Value.cells, evParts, evElems, evAll, fillP, zeros, RetK, resAll, resOf, tupleOf, bnd, intOf?, AFr.keep, RefT.cells, undef, Nat.reduceBEq, Nat.reduceAdd, Nat.reduceMul, Nat.reduceLeDiff, Nat.reduceEqDiff, reduceCtorEq, Int.reduceEq, Int.reduceLT, Int.reduceLE, Int.reduceAdd, Int.reduceSub, hwr, hlf]
      | true =>
        simp only [sx, argsFr, Sq, SI.wanted, AFr.ev, AFr.evV, AFr.get, AFr.box, AFr.put, AFr.setb, AV.val, callee, evArgs, aBin, aUn, oneCell, cellsOf, Value.cells, evParts, evElems, evAll, fillP, zeros, RetK, resAll, resOf, tupleOf, bnd, intOf?, AFr.keep, RefT.cells, undef, Nat.reduceBEq, Nat.reduceAdd, Nat.reduceMul, Nat.reduceLeDiff, Nat.reduceEqDiff, reduceCtorEq, Int.reduceEq, Int.reduceLT, Int.reduceLE, Int.reduceAdd, Int.reduceSub]
        refine Or.inl (hp τ2 (fun q hq => ?_) _ _ l[i].node.es[j] hvs _ (fun τ2' hmp => ?_))
        · obtain ⟨h1, h2⟩ := hBk q hq
          exact (hm2.keep q (Nat.lt_of_lt_of_le h1 hm1.size) (by simp)).trans (hm1.keep q h1 h2)
        · have ho2 := ho2.step (hmp.any _)
          have hes2 := hes2.step (hmp.any _)
          have hvs := hvs.step (hmp.any _)
          have hm2 := hm2.trans (hmp.any No2)
          simp only [sx, argsFr, Sq, SI.wanted, AFr.ev, AFr.evV, AFr.get, AFr.box, AFr.put, AFr.setb, AV.val, callee, evArgs, aBin, aUn, oneCell, cellsOf, Value.cells, evParts, evElems, evAll, fillP, zeros, RetK, resAll, resOf, tupleOf, bnd, intOf?, AFr.keep, RefT.cells, undef, Nat.reduceBEq, Nat.reduceAdd, Nat.reduceMul, Nat.reduceLeDiff, Nat.reduceEqDiff, reduceCtorEq, Int.reduceEq, Int.reduceLT, Int.reduceLE, Int.reduceAdd, Int.reduceSub]
          cases hpe : p l[i].node.es[j] with
          | false =>
            simp only [sx, argsFr, Sq, SI.wanted, AFr.ev, AFr.evV, AFr.get, AFr.box, AFr.put, AFr.setb, AV.val, callee, evArgs, aBin, aUn, oneCell, cellsOf, Value.cells, evParts, evElems, evAll, fillP, zeros, RetK, resAll, resOf, tupleOf, bnd, intOf?, AFr.keep, RefT.cells, undef, Nat.reduceBEq, Nat.reduceAdd, Nat.reduceMul, Nat.reduceLeDiff, Nat.reduceEqDiff, reduceCtorEq, Int.reduceEq, Int.reduceLT, Int.reduceLE, Int.reduceAdd, Int.reduceSub]
            refine ihj (j + 1) _ _ (by omega) ⟨v, No2, ?_, by omega, ?_, hm2, hes2⟩
            · simp only [sx, argsFr, Sq, SI.wanted, AFr.ev, AFr.evV, AFr.get, AFr.box, AFr.put, AFr.setb, AV.val, callee, evArgs, aBin, aUn, oneCell, cellsOf, Value.cells, evParts, evElems, evAll, fillP, zeros, RetK, resAll, resOf, tupleOf, bnd, intOf?, AFr.keep, RefT.cells, undef, Nat.reduceBEq, Nat.reduceAdd, Nat.reduceMul, Nat.reduceLeDiff, Nat.reduceEqDiff, reduceCtorEq, Int.reduceEq, Int.reduceLT, Int.reduceLE, Int.reduceAdd, Int.reduceSub, hwr, hlf]
            · simp only [hlf, if_true] at ho2 ⊢
              rw [List.take_succ_eq_append_getElem hj', List.filter_append]
              simpa [hpe] using ho2
          | true =>
            have hDN2 : ∀ q ∈ No2 ++ (N1 ++ D0), q < τ2'.size := lt_app ho2.lt hDN hm2.size
            have hfj : ((l[i].node.es.take j).filter p).length ≤ j := Nat.le_trans (List.length_filter_le _ _) (by simp; omega)
            simp only [sx, argsFr, Sq, SI.wanted, AFr.ev, AFr.evV, AFr.get, AFr.box, AFr.put, AFr.setb, AV.val, callee, evArgs, aBin, aUn, oneCell, cellsOf, Value.cells, evParts, evElems, evAll, fillP, zeros, RetK, resAll, resOf, tupleOf, bnd, intOf?, AFr.keep, RefT.cells, undef, Nat.reduceBEq, Nat.reduceAdd, Nat.reduceMul, Nat.reduceLeDiff, Nat.reduceEqDiff, reduceCtorEq, Int.reduceEq, Int.reduceLT, Int.reduceLE, Int.reduceAdd, Int.reduceSub, hlf]
            refine Sr_app (K := entK) (D := N1 ++ D0) (N := No2) (ys := [l[i].node.es[j]]) (new := [.string l[i].node.es[j].name, .slice b7 l[i].node.es[j].vs.length c7])
              (by simp only [sx, argsFr, Sq, SI.wanted, AFr.ev, AFr.evV, AFr.get, AFr.box, AFr.put, AFr.setb, AV.val, callee, evArgs, aBin, aUn, oneCell, cellsOf, Value.cells, evParts, evElems, evAll, fillP, zeros, RetK, resAll, resOf, tupleOf, bnd, intOf?, AFr.keep, RefT.cells, undef, Nat.reduceBEq, Nat.reduceAdd, Nat.reduceMul, Nat.reduceLeDiff, Nat.reduceEqDiff, reduceCtorEq, Int.reduceEq, Int.reduceLT, Int.reduceLE, Int.reduceAdd, Int.reduceSub, hlf]) (ho2.step (Mv.push _ τ2' _)) rfl (by decide) (by simp [srcOf, AFr.ev, AFr.get, AFr.put, List.lookup]) rfl (Kd.list_one ⟨_, rfl, hvs.step (Mv.push _ τ2' _)⟩)
              rfl (by unfold maxN; simp only [hlf, if_true, List.length_append, List.length_singleton]; omega) (fun v3 No3 τ3 ho3 hm3 => ?_) (fun q hq => by have := hDN2 q (by simp only [List.mem_append] at hq ⊢; grind); simp; omega)
            simp only [sx, argsFr, Sq, SI.wanted, AFr.ev, AFr.evV, AFr.get, AFr.box, AFr.put, AFr.setb, AV.val, callee, evArgs, aBin, aUn, oneCell, cellsOf, Value.cells, evParts, evElems, evAll, fillP, zeros, RetK, resAll, resOf, tupleOf, bnd, intOf?, AFr.keep, RefT.cells, undef, Nat.reduceBEq, Nat.reduceAdd, Nat.reduceMul, Nat.reduceLeDiff, Nat.reduceEqDiff, reduceCtorEq, Int.reduceEq, Int.reduceLT, Int.reduceLE, Int.reduceAdd, Int.reduceSub]
            refine ihj (j + 1) _ _ (by omega) ⟨v3, No3, ?_, by omega, ?_, hm2.trans ((Mv.push No2 τ2' _).trans hm3), hes2.step ((Mv.push _ τ2' _).trans (hm3.post (N1 ++ D0)))⟩
            · simp only [sx, argsFr, Sq, SI.wanted, AFr.ev, AFr.evV, AFr.get, AFr.box, AFr.put, AFr.setb, AV.val, callee, evArgs, aBin, aUn, oneCell, cellsOf, Value.cells, evParts, evElems, evAll, fillP, zeros, RetK, resAll, resOf, tupleOf, bnd, intOf?, AFr.keep, RefT.cells, undef, Nat.reduceBEq, Nat.reduceAdd, Nat.reduceMul, Nat.reduceLeDiff, Nat.reduceEqDiff, reduceCtorEq, Int.reduceEq, Int.reduceLT, Int.reduceLE, Int.reduceAdd, Int.reduceSub, hwr, hlf]
            · simp only [hlf, if_true] at ho3 ⊢
              rw [List.take_succ_eq_append_getElem hj', List.filter_append]
              simpa [hpe] using ho3
    · have hjl : j = l[i].node.es.length := by simp at hc2; omega
      subst hjl
      simp only [sx, argsFr, Sq, SI.wanted, AFr.ev, AFr.evV, AFr.get, AFr.box, AFr.put, AFr.setb, AV.val, callee, evArgs, aBin, aUn, oneCell, cellsOf, Value.cells, evParts, evElems, evAll, fillP, zeros, RetK, resAll, resOf, tupleOf, bnd, intOf?, AFr.keep, RefT.cells, undef, Nat.reduceBEq, Nat.reduceAdd, Nat.reduceMul, Nat.reduceLeDiff, Nat.reduceEqDiff, reduceCtorEq, Int.reduceEq, Int.reduceLT, Int.reduceLE, Int.reduceAdd, Int.reduceSub]
      refine ih (i + 1) _ _ (by omega) ⟨v, No2, ?_, by omega, ?_, hm2⟩
      · simp only [sx, argsFr, Sq, SI.wanted, AFr.ev, AFr.evV, AFr.get, AFr.box, AFr.put, AFr.setb, AV.val, callee, evArgs, aBin, aUn, oneCell, cellsOf, Value.cells, evParts, evElems, evAll, fillP, zeros, RetK, resAll, resOf, tupleOf, bnd, intOf?, AFr.keep, RefT.cells, undef, Nat.reduceBEq, Nat.reduceAdd, Nat.reduceMul, Nat.reduceLeDiff, Nat.reduceEqDiff, reduceCtorEq, Int.reduceEq, Int.reduceLT, Int.reduceLE, Int.reduceAdd, Int.reduceSub, wrap_up (show i ≤ 1000000000000000 by omega)]
      · rw [List.take_length] at ho2
        rw [List.take_succ_eq_append_getElem hi', secP, List.flatMap_append]
        simpa [secP] using ho2
  · simp only [sx, argsFr, Sq, SI.wanted, AFr.ev, AFr.evV, AFr.get, AFr.box, AFr.put, AFr.setb, AV.val, callee, evArgs, aBin, aUn, oneCell, cellsOf, Value.cells, evParts, evElems, evAll, fillP, zeros, RetK, resAll, resOf, tupleOf, bnd, intOf?, AFr.keep, RefT.cells, undef, Nat.reduceBEq, Nat.reduceAdd, Nat.reduceMul, Nat.reduceLeDiff, Nat.reduceEqDiff, reduceCtorEq, Int.reduceEq, Int.reduceLT, Int.reduceLE, Int.reduceAdd, Int.reduceSub]
    have hil : i = l.length := by simp at hc; omega
    subst hil
    rw [List.take_length] at ho
    refine Or.inl (c101 hA ho (fun v9 h9 => ?_))
    simp only [sx, argsFr, Sq, SI.wanted, AFr.ev, AFr.evV, AFr.get, AFr.box, AFr.put, AFr.setb, AV.val, callee, evArgs, aBin, aUn, oneCell, cellsOf, Value.cells, evParts, evElems, evAll, fillP, zeros, RetK, resAll, resOf, tupleOf, bnd, intOf?, AFr.keep, RefT.cells, undef, Nat.reduceBEq, Nat.reduceAdd, Nat.reduceMul, Nat.reduceLeDiff, Nat.reduceEqDiff, reduceCtorEq, Int.reduceEq, Int.reduceLT, Int.reduceLE, Int.reduceAdd, Int.reduceSub]
    exact hR v9 N1 τ (P.step hi1' (hm.any D0)) h9 (hm1'.trans (hm.any N1))
end
end Go.Proofs.Ytbldkkabkijpgaa

namespace Go.Proofs.Ytbldkkabkijpgaa
open Go.Am

/-- Is a name from one on, and ahead of another one ("": any)? -/
def rangeB (from_ to : ByteArray) (e : Ent) : Bool := !ltB e.name from_ && (decide (to = ⟨#[]⟩) || ltB e.name to)

/-- Is a name not behind another one? -/
def floorB (name : ByteArray) (e : Ent) : Bool := ltB e.name name || decide (e.name = name)

/-- Does a text begin with another one? -/
def begB (s w : ByteArray) : Bool := decide (w.size ≤ s.size) && decide (s.extract 0 w.size = w)

def namedB (ps : List ByteArray) (e : Ent) : Bool := decide (ps = []) || ps.any fun w => begB e.name w

set_option linter.unusedSimpArgs false
section
variable {A : AProg} (hA : Prg A)
include hA

theorem c61 {σ : AHeap} {b1 b2 e1 e2 : Nat} {f t : ByteArray} {m1 m2 : AMode} (h1 : σ[b1]? = some (.row [.string f] e1 m1)) (h2 : σ[b2]? = some (.row [.string t] e2 m2)) {D v} {e : Ent} (hv : SlR verK D σ v e.vs) {R : Value → AHeap → Prop}
    (hR : R (.bool (rangeB f t e)) σ) : C A 61 [.agg #[.string e.name, v], .pointer (some ⟨b1, 0, none⟩), .pointer (some ⟨b2, 0, none⟩)] σ R := by
  refine C_fn s61 (hA.at rfl) ?_
  obtain ⟨b, c, rfl⟩ := hv.shape
  unfold rangeB ltB at hR
  cases hq : Op.bytesLess e.name.toList f.toList with
  | true =>
    simp only [hq, Bool.not_true, Bool.false_and] at hR
    simp only [s61, sx, argsFr, Sq, SI.wanted, AFr.ev, AFr.evV, AFr.get, AFr.box, AFr.put, AFr.setb, AV.val, callee, evArgs, aBin, aUn, oneCell, cellsOf, Value.cells, evParts, evElems, evAll, fillP, zeros, RetK, resAll, resOf, tupleOf, bnd, intOf?, AFr.keep, RefT.cells, undef, Nat.reduceBEq, Nat.reduceAdd, Nat.reduceMul, Nat.reduceLeDiff, Nat.reduceEqDiff, reduceCtorEq, Int.reduceEq, Int.reduceLT, Int.reduceLE, Int.reduceAdd, Int.reduceSub, h1, h2, hq]
    exact hR
  | false =>
    simp only [hq, Bool.not_false, Bool.true_and] at hR
    by_cases ht : t = ⟨#[]⟩
    · subst ht
      simp only [decide_true, Bool.true_or] at hR
      simp only [s61, sx, argsFr, Sq, SI.wanted, AFr.ev, AFr.evV, AFr.get, AFr.box, AFr.put, AFr.setb, AV.val, callee, evArgs, aBin, aUn, oneCell, cellsOf, Value.cells, evParts, evElems, evAll, fillP, zeros, RetK, resAll, resOf, tupleOf, bnd, intOf?, AFr.keep, RefT.cells, undef, Nat.reduceBEq, Nat.reduceAdd, Nat.reduceMul, Nat.reduceLeDiff, Nat.reduceEqDiff, reduceCtorEq, Int.reduceEq, Int.reduceLT, Int.reduceLE, Int.reduceAdd, Int.reduceSub, h1, h2, hq]
      exact hR
    · simp only [ht, decide_false, Bool.false_or] at hR
      simp only [s61, sx, argsFr, Sq, SI.wanted, AFr.ev, AFr.evV, AFr.get, AFr.box, AFr.put, AFr.setb, AV.val, callee, evArgs, aBin, aUn, oneCell, cellsOf, Value.cells, evParts, evElems, evAll, fillP, zeros, RetK, resAll, resOf, tupleOf, bnd, intOf?, AFr.keep, RefT.cells, undef, Nat.reduceBEq, Nat.reduceAdd, Nat.reduceMul, Nat.reduceLeDiff, Nat.reduceEqDiff, reduceCtorEq, Int.reduceEq, Int.reduceLT, Int.reduceLE, Int.reduceAdd, Int.reduceSub, h1, h2, hq, ht]
      exact hR

theorem c63 {σ : AHeap} {b1 e1 : Nat} {n : ByteArray} {m1 : AMode} (h1 : σ[b1]? = some (.row [.string n] e1 m1)) {D v} {e : Ent} (hv : SlR verK D σ v e.vs) {R : Value → AHeap → Prop}
    (hR : R (.bool (floorB n e)) σ) : C A 63 [.agg #[.string e.name, v], .pointer (some ⟨b1, 0, none⟩)] σ R := by
  refine C_fn s63 (hA.at rfl) ?_
  obtain ⟨b, c, rfl⟩ := hv.shape
  unfold floorB ltB at hR
  simp only [s63, sx, argsFr, Sq, SI.wanted, AFr.ev, AFr.evV, AFr.get, AFr.box, AFr.put, AFr.setb, AV.val, callee, evArgs, aBin, aUn, oneCell, cellsOf, Value.cells, evParts, evElems, evAll, fillP, zeros, RetK, resAll, resOf, tupleOf, bnd, intOf?, AFr.keep, RefT.cells, undef, Nat.reduceBEq, Nat.reduceAdd, Nat.reduceMul, Nat.reduceLeDiff, Nat.reduceEqDiff, reduceCtorEq, Int.reduceEq, Int.reduceLT, Int.reduceLE, Int.reduceAdd, Int.reduceSub, h1]
  exact hR

theorem c103 {σ : AHeap} {s w : ByteArray} {R : Value → AHeap → Prop} (hR : R (.bool (begB s w)) σ) : C A 103 [.string s, .string w] σ R := by
  refine C_fn s103 (hA.at rfl) ?_
  unfold begB at hR
  by_cases h : w.size ≤ s.size
  · have h1 : (s.size : Int) ≥ (w.size : Int) := by omega
    have h2 : (0 : Int) ≤ (w.size : Int) ∧ (w.size : Int) ≤ (s.size : Int) := by omega
    simp only [h, decide_true, Bool.true_and] at hR
    simp only [s103, sx, argsFr, Sq, SI.wanted, AFr.ev, AFr.evV, AFr.get, AFr.box, AFr.put, AFr.setb, AV.val, callee, evArgs, aBin, aUn, oneCell, cellsOf, Value.cells, evParts, evElems, evAll, fillP, zeros, RetK, resAll, resOf, tupleOf, bnd, intOf?, AFr.keep, RefT.cells, undef, Nat.reduceBEq, Nat.reduceAdd, Nat.reduceMul, Nat.reduceLeDiff, Nat.reduceEqDiff, reduceCtorEq, Int.reduceEq, Int.reduceLT, Int.reduceLE, Int.reduceAdd, Int.reduceSub, h1, h2]
    exact hR
  · have h1 : ¬ ((s.size : Int) ≥ (w.size : Int)) := by omega
    simp only [h, decide_false, Bool.false_and] at hR
    simp only [s103, sx, argsFr, Sq, SI.wanted, AFr.ev, AFr.evV, AFr.get, AFr.box, AFr.put, AFr.setb, AV.val, callee, evArgs, aBin, aUn, oneCell, cellsOf, Value.cells, evParts, evElems, evAll, fillP, zeros, RetK, resAll, resOf, tupleOf, bnd, intOf?, AFr.keep, RefT.cells, undef, Nat.reduceBEq, Nat.reduceAdd, Nat.reduceMul, Nat.reduceLeDiff, Nat.reduceEqDiff, reduceCtorEq, Int.reduceEq, Int.reduceLT, Int.reduceLE, Int.reduceAdd, Int.reduceSub, h1]
    exact hR

theorem c104 {σ : AHeap} {s w : ByteArray} {R : Value → AHeap → Prop} (hR : R (.bool (begB s w)) σ) : C A 104 [.string s, .string w] σ R := by
  refine C_fn s104 (hA.at rfl) ?_
  unfold begB at hR
  by_cases h : w.size ≤ s.size
  · have h1 : (s.size : Int) ≥ (w.size : Int) := by omega
    have h2 : (0 : Int) ≤ (w.size : Int) ∧ (w.size : Int) ≤ (s.size : Int) := by omega
    simp only [h, decide_true, Bool.true_and] at hR
    simp only [s104, sx, argsFr, Sq, SI.wanted, AFr.ev, AFr.evV, AFr.get, AFr.box, AFr.put, AFr.setb, AV.val, callee, evArgs, aBin, aUn, oneCell, cellsOf, Value.cells, evParts, evElems, evAll, fillP, zeros, RetK, resAll, resOf, tupleOf, bnd, intOf?, AFr.keep, RefT.cells, undef, Nat.reduceBEq, Nat.reduceAdd, Nat.reduceMul, Nat.reduceLeDiff, Nat.reduceEqDiff, reduceCtorEq, Int.reduceEq, Int.reduceLT, Int.reduceLE, Int.reduceAdd, Int.reduceSub, h1, h2]
    exact hR
  · have h1 : ¬ ((s.size : Int) ≥ (w.size : Int)) := by omega
    simp only [h, decide_false, Bool.false_and] at hR
    simp only [s104, sx, argsFr, Sq, SI.wanted, AFr.ev, AFr.evV, AFr.get, AFr.box, AFr.put, AFr.setb, AV.val, callee, evArgs, aBin, aUn, oneCell, cellsOf, Value.cells, evParts, evElems, evAll, fillP, zeros, RetK, resAll, resOf, tupleOf, bnd, intOf?, AFr.keep, RefT.cells, undef, Nat.reduceBEq, Nat.reduceAdd, Nat.reduceMul, Nat.reduceLeDiff, Nat.reduceEqDiff, reduceCtorEq, Int.reduceEq, Int.reduceLT, Int.reduceLE, Int.reduceAdd, Int.reduceSub, h1]
    exact hR

theorem c68 {σ : AHeap} {s w : ByteArray} {R : Value → AHeap → Prop} (hR : R (.bool (begB s w)) σ) : C A 68 [.string s, .string w] σ R := by
  refine C_fn s68 (hA.at rfl) ?_
  simp only [s68, sx, argsFr, Sq, SI.wanted, AFr.ev, AFr.evV, AFr.get, AFr.box, AFr.put, AFr.setb, AV.val, callee, evArgs, aBin, aUn, oneCell, cellsOf, Value.cells, evParts, evElems, evAll, fillP, zeros, RetK, resAll, resOf, tupleOf, bnd, intOf?, AFr.keep, RefT.cells, undef, Nat.reduceBEq, Nat.reduceAdd, Nat.reduceMul, Nat.reduceLeDiff, Nat.reduceEqDiff, reduceCtorEq, Int.reduceEq, Int.reduceLT, Int.reduceLE, Int.reduceAdd, Int.reduceSub]
  refine Or.inl (c103 hA ?_)
  simp only [sx, argsFr, Sq, SI.wanted, AFr.ev, AFr.evV, AFr.get, AFr.box, AFr.put, AFr.setb, AV.val, callee, evArgs, aBin, aUn, oneCell, cellsOf, Value.cells, evParts, evElems, evAll, fillP, zeros, RetK, resAll, resOf, tupleOf, bnd, intOf?, AFr.keep, RefT.cells, undef, Nat.reduceBEq, Nat.reduceAdd, Nat.reduceMul, Nat.reduceLeDiff, Nat.reduceEqDiff, reduceCtorEq, Int.reduceEq, Int.reduceLT, Int.reduceLE, Int.reduceAdd, Int.reduceSub]
  exact hR

theorem c67 {σ : AHeap} {b1 e1 : Nat} {n w : ByteArray} {v : Value} {m1 : AMode} (h1 : σ[b1]? = some (.row [.string n, v] e1 m1)) {R : Value → AHeap → Prop} (hR : R (.bool (begB n w)) σ) : C A 67 [.string w, .pointer (some ⟨b1, 0, none⟩)] σ R := by
  refine C_fn s67 (hA.at rfl) ?_
  simp only [s67, sx, argsFr, Sq, SI.wanted, AFr.ev, AFr.evV, AFr.get, AFr.box, AFr.put, AFr.setb, AV.val, callee, evArgs, aBin, aUn, oneCell, cellsOf, Value.cells, evParts, evElems, evAll, fillP, zeros, RetK, resAll, resOf, tupleOf, bnd, intOf?, AFr.keep, RefT.cells, undef, Nat.reduceBEq, Nat.reduceAdd, Nat.reduceMul, Nat.reduceLeDiff, Nat.reduceEqDiff, reduceCtorEq, Int.reduceEq, Int.reduceLT, Int.reduceLE, Int.reduceAdd, Int.reduceSub, h1]
  refine Or.inl (c68 hA ?_)
  simp only [sx, argsFr, Sq, SI.wanted, AFr.ev, AFr.evV, AFr.get, AFr.box, AFr.put, AFr.setb, AV.val, callee, evArgs, aBin, aUn, oneCell, cellsOf, Value.cells, evParts, evElems, evAll, fillP, zeros, RetK, resAll, resOf, tupleOf, bnd, intOf?, AFr.keep, RefT.cells, undef, Nat.reduceBEq, Nat.reduceAdd, Nat.reduceMul, Nat.reduceLeDiff, Nat.reduceEqDiff, reduceCtorEq, Int.reduceEq, Int.reduceLT, Int.reduceLE, Int.reduceAdd, Int.reduceSub]
  exact hR

theorem c102 {D σ v g caps} {ps : List ByteArray} {q : ByteArray → Bool} (h : SlR strK D σ v ps) (hq : ∀ (w : ByteArray) (R : Value → AHeap → Prop), R (.bool (q w)) σ → C A g (.string w :: caps) σ R) {R : Value → AHeap → Prop}
    (hR : ∀ z : Int, (0 ≤ z ↔ ps.any q = true) → R (.int .i64 z) σ) : C A 102 [v, .func (.func g) #[] caps.toArray] σ R := by
  refine C_fn s102 (hA.at rfl) ?_
  obtain ⟨base, c, rfl⟩ := h.shape
  have hmx := h.bound
  unfold maxN at hmx
  simp only [s102, sx, argsFr, Sq, SI.wanted, AFr.ev, AFr.evV, AFr.get, AFr.box, AFr.put, AFr.setb, AV.val, callee, evArgs, aBin, aUn, oneCell, cellsOf, Value.cells, evParts, evElems, evAll, fillP, zeros, RetK, resAll, resOf, tupleOf, bnd, intOf?, AFr.keep, RefT.cells, undef, Nat.reduceBEq, Nat.reduceAdd, Nat.reduceMul, Nat.reduceLeDiff, Nat.reduceEqDiff, reduceCtorEq, Int.reduceEq, Int.reduceLT, Int.reduceLE, Int.reduceAdd, Int.reduceSub]
  refine Lp_ind (fun i => ps.length - i) (fun i f σ1 => σ1 = σ ∧ f.keep [0, 1, 7, 8] [] = some ⟨[(0, .v (.slice base ps.length c)), (1, .v (.func (.func g) #[] caps.toArray)), (7, .v (.int .i64 ps.length)), (8, .v (.int .i64 i))], []⟩ ∧
    i ≤ ps.length ∧ ps.any q = (ps.drop i).any q) ?_ 0 _ _ ⟨rfl, rfl, Nat.zero_le _, rfl⟩
  rintro i f σ1 ⟨rfl, hkp, hi, hb⟩ ih
  rw [St_seq, St_keep hkp]
  simp only [sx, argsFr, Sq, SI.wanted, AFr.ev, AFr.evV, AFr.get, AFr.box, AFr.put, AFr.setb, AV.val, callee, evArgs, aBin, aUn, oneCell, cellsOf, Value.cells, evParts, evElems, evAll, fillP, zeros, RetK, resAll, resOf, tupleOf, bnd, intOf?, AFr.keep, RefT.cells, undef, Nat.reduceBEq, Nat.reduceAdd, Nat.reduceMul, Nat.reduceLeDiff, Nat.reduceEqDiff, reduceCtorEq, Int.reduceEq, Int.reduceLT, Int.reduceLE, Int.reduceAdd, Int.reduceSub]
  refine Cd_split (fun ht => ?_) (fun ht => ?_)
  · have hi' : i < ps.length := by simpa using ht
    obtain ⟨b, off, cs, e, m, u, rfl, hbb, hcut, hu⟩ := h.at1 (List.getElem?_eq_getElem hi') rfl
    have hu' : u = .string ps[i] := by simpa [strK, Kd.flat] using hu
    subst hu'
    rw [List.drop_eq_getElem_cons hi', List.any_cons] at hb
    simp only [sx, argsFr, Sq, SI.wanted, AFr.ev, AFr.evV, AFr.get, AFr.box, AFr.put, AFr.setb, AV.val, callee, evArgs, aBin, aUn, oneCell, cellsOf, Value.cells, evParts, evElems, evAll, fillP, zeros, RetK, resAll, resOf, tupleOf, bnd, intOf?, AFr.keep, RefT.cells, undef, Nat.reduceBEq, Nat.reduceAdd, Nat.reduceMul, Nat.reduceLeDiff, Nat.reduceEqDiff, reduceCtorEq, Int.reduceEq, Int.reduceLT, Int.reduceLE, Int.reduceAdd, Int.reduceSub, hi', hbb, hcut]
    refine Or.inl (hq ps[i] _ ?_)
    cases hqi : q ps[i] with
    | true =>
      simp only [sx, argsFr, Sq, SI.wanted, AFr.ev, AFr.evV, AFr.get, AFr.box, AFr.put, AFr.setb, AV.val, callee, evArgs, aBin, aUn, oneCell, cellsOf, Value.cells, evParts, evElems, evAll, fillP, zeros, RetK, resAll, resOf, tupleOf, bnd, intOf?, AFr.keep, RefT.cells, undef, Nat.reduceBEq, Nat.reduceAdd, Nat.reduceMul, Nat.reduceLeDiff, Nat.reduceEqDiff, reduceCtorEq, Int.reduceEq, Int.reduceLT, Int.reduceLE, Int.reduceAdd, Int.reduceSub, hqi]
      exact hR i (by rw [hb, hqi]; simp)
    | false =>
      simp only [sx, argsFr, Sq, SI.wanted, AFr.ev, AFr.evV, AFr.get, AFr.box, AFr.put, AFr.setb, AV.val, callee, evArgs, aBin, aUn, oneCell, cellsOf, Value.cells, evParts, evElems, evAll, fillP, zeros, RetK, resAll, resOf, tupleOf, bnd, intOf?, AFr.keep, RefT.cells, undef, Nat.reduceBEq, Nat.reduceAdd, Nat.reduceMul, Nat.reduceLeDiff, Nat.reduceEqDiff, reduceCtorEq, Int.reduceEq, Int.reduceLT, Int.reduceLE, Int.reduceAdd, Int.reduceSub, hqi]
      rw [hqi, Bool.false_or] at hb
      refine ih (i + 1) _ _ (by omega) ⟨rfl, ?_, by omega, hb⟩
      simp only [sx, argsFr, Sq, SI.wanted, AFr.ev, AFr.evV, AFr.get, AFr.box, AFr.put, AFr.setb, AV.val, callee, evArgs, aBin, aUn, oneCell, cellsOf, Value.cells, evParts, evElems, evAll, fillP, zeros, RetK, resAll, resOf, tupleOf, bnd, intOf?, AFr.keep, RefT.cells, undef, Nat.reduceBEq, Nat.reduceAdd, Nat.reduceMul, Nat.reduceLeDiff, Nat.reduceEqDiff, reduceCtorEq, Int.reduceEq, Int.reduceLT, Int.reduceLE, Int.reduceAdd, Int.reduceSub, wrap_up (show i ≤ 1000000000000000 by omega)]
  · simp only [sx, argsFr, Sq, SI.wanted, AFr.ev, AFr.evV, AFr.get, AFr.box, AFr.put, AFr.setb, AV.val, callee, evArgs, aBin, aUn, oneCell, cellsOf, Value.cells, evParts, evElems, evAll, fillP, zeros, RetK, resAll, resOf, tupleOf, bnd, intOf?, AFr.keep, RefT.cells, undef, Nat.reduceBEq, Nat.reduceAdd, Nat.reduceMul, Nat.reduceLeDiff, Nat.reduceEqDiff, reduceCtorEq, Int.reduceEq, Int.reduceLT, Int.reduceLE, Int.reduceAdd, Int.reduceSub]
    have : i = ps.length := by simp at ht; omega
    subst this
    rw [List.drop_length] at hb
    exact hR (-1) (by rw [hb]; simp)

theorem c66 {D σ v g caps} {ps : List ByteArray} {q : ByteArray → Bool} (h : SlR strK D σ v ps) (hq : ∀ (w : ByteArray) (R : Value → AHeap → Prop), R (.bool (q w)) σ → C A g (.string w :: caps) σ R) {R : Value → AHeap → Prop}
    (hR : R (.bool (ps.any q)) σ) : C A 66 [v, .func (.func g) #[] caps.toArray] σ R := by
  refine C_fn s66 (hA.at rfl) ?_
  simp only [s66, sx, argsFr, Sq, SI.wanted, AFr.ev, AFr.evV, AFr.get, AFr.box, AFr.put, AFr.setb, AV.val, callee, evArgs, aBin, aUn, oneCell, cellsOf, Value.cells, evParts, evElems, evAll, fillP, zeros, RetK, resAll, resOf, tupleOf, bnd, intOf?, AFr.keep, RefT.cells, undef, Nat.reduceBEq, Nat.reduceAdd, Nat.reduceMul, Nat.reduceLeDiff, Nat.reduceEqDiff, reduceCtorEq, Int.reduceEq, Int.reduceLT, Int.reduceLE, Int.reduceAdd, Int.reduceSub]
  refine Or.inl (c102 hA h hq (fun z hz => ?_))
  simp only [sx, argsFr, Sq, SI.wanted, AFr.ev, AFr.evV, AFr.get, AFr.box, AFr.put, AFr.setb, AV.val, callee, evArgs, aBin, aUn, oneCell, cellsOf, Value.cells, evParts, evElems, evAll, fillP, zeros, RetK, resAll, resOf, tupleOf, bnd, intOf?, AFr.keep, RefT.cells, undef, Nat.reduceBEq, Nat.reduceAdd, Nat.reduceMul, Nat.reduceLeDiff, Nat.reduceEqDiff, reduceCtorEq, Int.reduceEq, Int.reduceLT, Int.reduceLE, Int.reduceAdd, Int.reduceSub]
  have : decide (z ≥ 0) = ps.any q := by
    rw [Bool.eq_iff_iff, ← hz]
    simp
  rw [this]
  exact hR

theorem c65 {σ : AHeap} {b1 e1 : Nat} {m1 : AMode} {D D' v pv} {e : Ent} {ps : List ByteArray} (h1 : σ[b1]? = some (.row [pv] e1 m1)) (hp : SlR strK D' σ pv ps) (hv : SlR verK D σ v e.vs) {R : Value → AHeap → Prop}
    (hR : ∀ τ', Mv [] σ [] τ' → R (.bool (namedB ps e)) τ') : C A 65 [.agg #[.string e.name, v], .pointer (some ⟨b1, 0, none⟩)] σ R := by
  refine C_fn s65 (hA.at rfl) ?_
  obtain ⟨b, c, rfl⟩ := hv.shape
  obtain ⟨base, c2, rfl⟩ := hp.shape
  have hlt := lt_of_get h1
  have h2 : ∀ x, (σ.push x)[b1]? = some (.row [.slice base ps.length c2] e1 m1) := fun x => by rw [Array.getElem?_push, if_neg (by omega)]; exact h1
  have h3 : ∀ x, (σ.push x)[σ.size]? = some x := fun x => by simp
  unfold namedB at hR
  by_cases hz : ps.length = 0
  · have hz' : ps = [] := List.eq_nil_of_length_eq_zero hz
    have hzi : ((ps.length : Nat) : Int) = 0 := by omega
    simp only [hz', decide_true, Bool.true_or] at hR
    simp only [s65, sx, argsFr, Sq, SI.wanted, AFr.ev, AFr.evV, AFr.get, AFr.box, AFr.put, AFr.setb, AV.val, callee, evArgs, aBin, aUn, oneCell, cellsOf, Value.cells, evParts, evElems, evAll, fillP, zeros, RetK, resAll, resOf, tupleOf, bnd, intOf?, AFr.keep, RefT.cells, undef, Nat.reduceBEq, Nat.reduceAdd, Nat.reduceMul, Nat.reduceLeDiff, Nat.reduceEqDiff, reduceCtorEq, Int.reduceEq, Int.reduceLT, Int.reduceLE, Int.reduceAdd, Int.reduceSub, h2, hzi]
    exact hR _ (Mv.push _ _ _)
  · have hz' : ¬ ps = [] := fun h => hz (by rw [h]; rfl)
    have hzi : ¬ (((ps.length : Nat) : Int) = 0) := by omega
    simp only [hz', decide_false, Bool.false_or] at hR
    simp only [s65, sx, argsFr, Sq, SI.wanted, AFr.ev, AFr.evV, AFr.get, AFr.box, AFr.put, AFr.setb, AV.val, callee, evArgs, aBin, aUn, oneCell, cellsOf, Value.cells, evParts, evElems, evAll, fillP, zeros, RetK, resAll, resOf, tupleOf, bnd, intOf?, AFr.keep, RefT.cells, undef, Nat.reduceBEq, Nat.reduceAdd, Nat.reduceMul, Nat.reduceLeDiff, Nat.reduceEqDiff, reduceCtorEq, Int.reduceEq, Int.reduceLT, Int.reduceLE, Int.reduceAdd, Int.reduceSub, h2, hzi]
    refine Or.inl (c66 hA (caps := [.pointer (some ⟨σ.size, 0, none⟩)]) (q := fun w => begB e.name w) (hp.step (Mv.push _ _ _)) (fun w R' hR' => c67 hA (h3 _) hR') ?_)
    simp only [sx, argsFr, Sq, SI.wanted, AFr.ev, AFr.evV, AFr.get, AFr.box, AFr.put, AFr.setb, AV.val, callee, evArgs, aBin, aUn, oneCell, cellsOf, Value.cells, evParts, evElems, evAll, fillP, zeros, RetK, resAll, resOf, tupleOf, bnd, intOf?, AFr.keep, RefT.cells, undef, Nat.reduceBEq, Nat.reduceAdd, Nat.reduceMul, Nat.reduceLeDiff, Nat.reduceEqDiff, reduceCtorEq, Int.reduceEq, Int.reduceLT, Int.reduceLE, Int.reduceAdd, Int.reduceSub]
    exact hR _ (Mv.push _ _ _)

variable {S : Type} (P : Store A S)

theorem c24 {D0 N σ s s'} {r : RefT} {f t : ByteArray} {l : List SeenT} (hh : P.is D0 N σ s) (hD : ∀ b ∈ D0, b < σ.size) (hok : allP P 8 s [] r = (.ok l, s')) (hbd : l.length ≤ 100000) (hes : ∀ x ∈ l, x.node.es.length ≤ 1000) {R : Value → AHeap → Prop}
    (hR : ∀ v' N' σ', P.is D0 N' σ' s' → SlR entK (N' ++ D0) σ' v' (secP (rangeB f t) l) → Mv N σ N' σ' → R (.tuple #[v', .int .i64 0]) σ') :
    C A 24 [.iface P.ti P.pv, .agg #[.int .u64 r.key, .int .i64 r.seg, .int .i64 r.off, .int .i64 r.len], .string f, .string t] σ R := by
  refine C_fn s24 (hA.at rfl) ?_
  simp only [s24, sx, argsFr, Sq, SI.wanted, AFr.ev, AFr.evV, AFr.get, AFr.box, AFr.put, AFr.setb, AV.val, callee, evArgs, aBin, aUn, oneCell, cellsOf, Value.cells, evParts, evElems, evAll, fillP, zeros, RetK, resAll, resOf, tupleOf, bnd, intOf?, AFr.keep, RefT.cells, undef, Nat.reduceBEq, Nat.reduceAdd, Nat.reduceMul, Nat.reduceLeDiff, Nat.reduceEqDiff, reduceCtorEq, Int.reduceEq, Int.reduceLT, Int.reduceLE, Int.reduceAdd, Int.reduceSub, Array.size_push]
  have hN := P.lt hh
  refine Or.inl (c60 hA P (caps := [.pointer (some ⟨σ.size, 0, none⟩), .pointer (some ⟨σ.size + 1, 0, none⟩)]) (p := rangeB f t) (Bk := [σ.size, σ.size + 1]) (P.step (P.step hh (Mv.push D0 σ _)) (Mv.push D0 _ _)) (fun q hq => by have := hD q hq; simp; omega) (fun q hq => ?_) (fun τ hτ D v e hv R' hR' => ?_) hok hbd hes
    (fun v' N' σ' hi ho hm => ?_))
  · simp at hq
    refine ⟨by simp; omega, fun hn => ?_⟩
    have := hN q hn
    omega
  · refine c61 hA (m1 := .W) (m2 := .W) (e1 := 0) (e2 := 0) ((hτ _ (by simp)).trans ?_) ((hτ _ (by simp)).trans ?_) hv (hR' _ (Mv.refl _ _))
    · rw [Array.getElem?_push, if_neg (by simp), Array.getElem?_push, if_pos rfl]
    · rw [Array.getElem?_push, if_pos (by simp)]
  · simp only [sx, argsFr, Sq, SI.wanted, AFr.ev, AFr.evV, AFr.get, AFr.box, AFr.put, AFr.setb, AV.val, callee, evArgs, aBin, aUn, oneCell, cellsOf, Value.cells, evParts, evElems, evAll, fillP, zeros, RetK, resAll, resOf, tupleOf, bnd, intOf?, AFr.keep, RefT.cells, undef, Nat.reduceBEq, Nat.reduceAdd, Nat.reduceMul, Nat.reduceLeDiff, Nat.reduceEqDiff, reduceCtorEq, Int.reduceEq, Int.reduceLT, Int.reduceLE, Int.reduceAdd, Int.reduceSub]
    exact hR v' N' σ' hi ho (((Mv.push N σ _).trans (Mv.push N _ _)).trans hm)

theorem c25 {D0 N σ s s'} {r : RefT} {l : List SeenT} (hh : P.is D0 N σ s) (hD : ∀ b ∈ D0, b < σ.size) (hok : allP P 8 s [] r = (.ok l, s')) (hbd : l.length ≤ 100000) (hes : ∀ x ∈ l, x.node.es.length ≤ 1000) {R : Value → AHeap → Prop}
    (hR : ∀ N' σ', P.is D0 N' σ' s' → Mv N σ N' σ' → R (.tuple #[.int .i64 (secP (rangeB ⟨#[]⟩ ⟨#[]⟩) l).length, .int .i64 0]) σ') :
    C A 25 [.iface P.ti P.pv, .agg #[.int .u64 r.key, .int .i64 r.seg, .int .i64 r.off, .int .i64 r.len]] σ R := by
  refine C_fn s25 (hA.at rfl) ?_
  simp only [s25, sx, argsFr, Sq, SI.wanted, AFr.ev, AFr.evV, AFr.get, AFr.box, AFr.put, AFr.setb, AV.val, callee, evArgs, aBin, aUn, oneCell, cellsOf, Value.cells, evParts, evElems, evAll, fillP, zeros, RetK, resAll, resOf, tupleOf, bnd, intOf?, AFr.keep, RefT.cells, undef, Nat.reduceBEq, Nat.reduceAdd, Nat.reduceMul, Nat.reduceLeDiff, Nat.reduceEqDiff, reduceCtorEq, Int.reduceEq, Int.reduceLT, Int.reduceLE, Int.reduceAdd, Int.reduceSub]
  refine Or.inl (c24 hA P hh hD hok hbd hes (fun v' N' σ' hi ho hm => ?_))
  obtain ⟨b, c, rfl⟩ := ho.shape
  simp only [sx, argsFr, Sq, SI.wanted, AFr.ev, AFr.evV, AFr.get, AFr.box, AFr.put, AFr.setb, AV.val, callee, evArgs, aBin, aUn, oneCell, cellsOf, Value.cells, evParts, evElems, evAll, fillP, zeros, RetK, resAll, resOf, tupleOf, bnd, intOf?, AFr.keep, RefT.cells, undef, Nat.reduceBEq, Nat.reduceAdd, Nat.reduceMul, Nat.reduceLeDiff, Nat.reduceEqDiff, reduceCtorEq, Int.reduceEq, Int.reduceLT, Int.reduceLE, Int.reduceAdd, Int.reduceSub]
  exact hR N' σ' hi hm

theorem c62 {D σ v} {l : List Ent} {n : Int} (h : SlR entK D σ v l) {R : Value → AHeap → Prop}
    (h0 : n < 0 ∨ (l.length : Int) ≤ n → R (.tuple #[.agg #[.string ⟨#[]⟩, .slice none 0 0], .bool false, .int .i64 0]) σ)
    (h1 : ∀ (k : Nat) e ve, n = k → l[k]? = some e → SlR verK D σ ve e.vs → R (.tuple #[.agg #[.string e.name, ve], .bool true, .int .i64 0]) σ) : C A 62 [v, .int .i64 n, .int .i64 0] σ R := by
  refine C_fn s62 (hA.at rfl) ?_
  obtain ⟨base, c, rfl⟩ := h.shape
  by_cases hn : n < 0
  · simp only [s62, sx, argsFr, Sq, SI.wanted, AFr.ev, AFr.evV, AFr.get, AFr.box, AFr.put, AFr.setb, AV.val, callee, evArgs, aBin, aUn, oneCell, cellsOf, Value.cells, evParts, evElems, evAll, fillP, zeros, RetK, resAll, resOf, tupleOf, bnd, intOf?, AFr.keep, RefT.cells, undef, Nat.reduceBEq, Nat.reduceAdd, Nat.reduceMul, Nat.reduceLeDiff, Nat.reduceEqDiff, reduceCtorEq, Int.reduceEq, Int.reduceLT, Int.reduceLE, Int.reduceAdd, Int.reduceSub, hn]
    exact h0 (.inl hn)
  · by_cases hl : n ≥ (l.length : Int)
    · simp only [s62, sx, argsFr, Sq, SI.wanted, AFr.ev, AFr.evV, AFr.get, AFr.box, AFr.put, AFr.setb, AV.val, callee, evArgs, aBin, aUn, oneCell, cellsOf, Value.cells, evParts, evElems, evAll, fillP, zeros, RetK, resAll, resOf, tupleOf, bnd, intOf?, AFr.keep, RefT.cells, undef, Nat.reduceBEq, Nat.reduceAdd, Nat.reduceMul, Nat.reduceLeDiff, Nat.reduceEqDiff, reduceCtorEq, Int.reduceEq, Int.reduceLT, Int.reduceLE, Int.reduceAdd, Int.reduceSub, hn, hl]
      exact h0 (.inr hl)
    · obtain ⟨k, rfl⟩ : ∃ k : Nat, n = k := ⟨n.toNat, by omega⟩
      have hk : k < l.length := by omega
      obtain ⟨b, off, cs, e, m, cells, rfl, hb, hcut, ve, rfl, hvs⟩ := h.atN (j := 2) rfl (List.getElem?_eq_getElem hk)
      obtain ⟨b7, c7, rfl⟩ := hvs.shape
      simp only [s62, sx, argsFr, Sq, SI.wanted, AFr.ev, AFr.evV, AFr.get, AFr.box, AFr.put, AFr.setb, AV.val, callee, evArgs, aBin, aUn, oneCell, cellsOf, Value.cells, evParts, evElems, evAll, fillP, zeros, RetK, resAll, resOf, tupleOf, bnd, intOf?, AFr.keep, RefT.cells, undef, Nat.reduceBEq, Nat.reduceAdd, Nat.reduceMul, Nat.reduceLeDiff, Nat.reduceEqDiff, reduceCtorEq, Int.reduceEq, Int.reduceLT, Int.reduceLE, Int.reduceAdd, Int.reduceSub, hn, hl, hk, hb, hcut]
      exact h1 k _ _ rfl (List.getElem?_eq_getElem hk) hvs

theorem c26 {D0 N σ s s'} {r : RefT} {l : List SeenT} {n : Int} (hh : P.is D0 N σ s) (hD : ∀ b ∈ D0, b < σ.size) (hok : allP P 8 s [] r = (.ok l, s')) (hbd : l.length ≤ 100000) (hes : ∀ x ∈ l, x.node.es.length ≤ 1000) {R : Value → AHeap → Prop}
    (h0 : n < 0 ∨ ((secP (rangeB ⟨#[]⟩ ⟨#[]⟩) l).length : Int) ≤ n → ∀ N' σ', P.is D0 N' σ' s' → Mv N σ N' σ' → R (.tuple #[.agg #[.string ⟨#[]⟩, .slice none 0 0], .bool false, .int .i64 0]) σ')
    (h1 : ∀ (k : Nat) e ve N' σ', n = k → (secP (rangeB ⟨#[]⟩ ⟨#[]⟩) l)[k]? = some e → P.is D0 N' σ' s' → SlR verK (N' ++ D0) σ' ve e.vs → Mv N σ N' σ' → R (.tuple #[.agg #[.string e.name, ve], .bool true, .int .i64 0]) σ') :
    C A 26 [.iface P.ti P.pv, .agg #[.int .u64 r.key, .int .i64 r.seg, .int .i64 r.off, .int .i64 r.len], .int .i64 n] σ R := by
  refine C_fn s26 (hA.at rfl) ?_
  simp only [s26, sx, argsFr, Sq, SI.wanted, AFr.ev, AFr.evV, AFr.get, AFr.box, AFr.put, AFr.setb, AV.val, callee, evArgs, aBin, aUn, oneCell, cellsOf, Value.cells, evParts, evElems, evAll, fillP, zeros, RetK, resAll, resOf, tupleOf, bnd, intOf?, AFr.keep, RefT.cells, undef, Nat.reduceBEq, Nat.reduceAdd, Nat.reduceMul, Nat.reduceLeDiff, Nat.reduceEqDiff, reduceCtorEq, Int.reduceEq, Int.reduceLT, Int.reduceLE, Int.reduceAdd, Int.reduceSub]
  refine Or.inl (c24 hA P hh hD hok hbd hes (fun v' N' σ' hi ho hm => ?_))
  have hoo := ho
  obtain ⟨b, c, rfl⟩ := ho.shape
  simp only [sx, argsFr, Sq, SI.wanted, AFr.ev, AFr.evV, AFr.get, AFr.box, AFr.put, AFr.setb, AV.val, callee, evArgs, aBin, aUn, oneCell, cellsOf, Value.cells, evParts, evElems, evAll, fillP, zeros, RetK, resAll, resOf, tupleOf, bnd, intOf?, AFr.keep, RefT.cells, undef, Nat.reduceBEq, Nat.reduceAdd, Nat.reduceMul, Nat.reduceLeDiff, Nat.reduceEqDiff, reduceCtorEq, Int.reduceEq, Int.reduceLT, Int.reduceLE, Int.reduceAdd, Int.reduceSub]
  refine Or.inl (c62 hA hoo (fun hn => ?_) (fun k e ve hn hk hv => ?_))
  · simp only [sx, argsFr, Sq, SI.wanted, AFr.ev, AFr.evV, AFr.get, AFr.box, AFr.put, AFr.setb, AV.val, callee, evArgs, aBin, aUn, oneCell, cellsOf, Value.cells, evParts, evElems, evAll, fillP, zeros, RetK, resAll, resOf, tupleOf, bnd, intOf?, AFr.keep, RefT.cells, undef, Nat.reduceBEq, Nat.reduceAdd, Nat.reduceMul, Nat.reduceLeDiff, Nat.reduceEqDiff, reduceCtorEq, Int.reduceEq, Int.reduceLT, Int.reduceLE, Int.reduceAdd, Int.reduceSub]
    exact h0 hn N' σ' hi hm
  · obtain ⟨b7, c7, rfl⟩ := hv.shape
    simp only [sx, argsFr, Sq, SI.wanted, AFr.ev, AFr.evV, AFr.get, AFr.box, AFr.put, AFr.setb, AV.val, callee, evArgs, aBin, aUn, oneCell, cellsOf, Value.cells, evParts, evElems, evAll, fillP, zeros, RetK, resAll, resOf, tupleOf, bnd, intOf?, AFr.keep, RefT.cells, undef, Nat.reduceBEq, Nat.reduceAdd, Nat.reduceMul, Nat.reduceLeDiff, Nat.reduceEqDiff, reduceCtorEq, Int.reduceEq, Int.reduceLT, Int.reduceLE, Int.reduceAdd, Int.reduceSub]
    exact h1 k e _ N' σ' hn hk hi hv hm

theorem c28 {D0 N σ s s'} {r : RefT} {name : ByteArray} {l : List SeenT} (hh : P.is D0 N σ s) (hD : ∀ b ∈ D0, b < σ.size) (hok : allP P 8 s [] r = (.ok l, s')) (hbd : l.length ≤ 100000) (hes : ∀ x ∈ l, x.node.es.length ≤ 1000) {R : Value → AHeap → Prop}
    (h0 : secP (floorB name) l = [] → ∀ N' σ', P.is D0 N' σ' s' → Mv N σ N' σ' → R (.tuple #[.agg #[.string ⟨#[]⟩, .slice none 0 0], .bool false, .int .i64 0]) σ')
    (h1 : ∀ e ve N' σ', (secP (floorB name) l).getLast? = some e → P.is D0 N' σ' s' → SlR verK (N' ++ D0) σ' ve e.vs → Mv N σ N' σ' → R (.tuple #[.agg #[.string e.name, ve], .bool true, .int .i64 0]) σ') :
    C A 28 [.iface P.ti P.pv, .agg #[.int .u64 r.key, .int .i64 r.seg, .int .i64 r.off, .int .i64 r.len], .string name] σ R := by
  refine C_fn s28 (hA.at rfl) ?_
  simp only [s28, sx, argsFr, Sq, SI.wanted, AFr.ev, AFr.evV, AFr.get, AFr.box, AFr.put, AFr.setb, AV.val, callee, evArgs, aBin, aUn, oneCell, cellsOf, Value.cells, evParts, evElems, evAll, fillP, zeros, RetK, resAll, resOf, tupleOf, bnd, intOf?, AFr.keep, RefT.cells, undef, Nat.reduceBEq, Nat.reduceAdd, Nat.reduceMul, Nat.reduceLeDiff, Nat.reduceEqDiff, reduceCtorEq, Int.reduceEq, Int.reduceLT, Int.reduceLE, Int.reduceAdd, Int.reduceSub]
  have hN := P.lt hh
  refine Or.inl (c60 hA P (caps := [.pointer (some ⟨σ.size, 0, none⟩)]) (p := floorB name) (Bk := [σ.size]) (P.step hh (Mv.push D0 σ _)) (fun q hq => by have := hD q hq; simp; omega) (fun q hq => ?_) (fun τ hτ D v e hv R' hR' => ?_) hok hbd hes
    (fun v' N' σ' hi ho hm => ?_))
  · simp at hq
    refine ⟨by simp; omega, fun hn => ?_⟩
    have := hN q hn
    omega
  · refine c63 hA (m1 := .W) (e1 := 0) ((hτ _ (by simp)).trans ?_) hv (hR' _ (Mv.refl _ _))
    rw [Array.getElem?_push, if_pos rfl]
  · have hmm := (Mv.push N σ (.row [.string name] 0 .W)).trans hm
    have hoo := ho
    have hb := ho.bound
    unfold maxN at hb
    obtain ⟨b, c, rfl⟩ := ho.shape
    have hw : IntKind.i64.wrap (((secP (floorB name) l).length : Int) - 1) = ((secP (floorB name) l).length : Int) - 1 := wrap_in (by omega) (by omega)
    simp only [sx, argsFr, Sq, SI.wanted, AFr.ev, AFr.evV, AFr.get, AFr.box, AFr.put, AFr.setb, AV.val, callee, evArgs, aBin, aUn, oneCell, cellsOf, Value.cells, evParts, evElems, evAll, fillP, zeros, RetK, resAll, resOf, tupleOf, bnd, intOf?, AFr.keep, RefT.cells, undef, Nat.reduceBEq, Nat.reduceAdd, Nat.reduceMul, Nat.reduceLeDiff, Nat.reduceEqDiff, reduceCtorEq, Int.reduceEq, Int.reduceLT, Int.reduceLE, Int.reduceAdd, Int.reduceSub, hw]
    refine Or.inl (c62 hA hoo (fun hn => ?_) (fun k e ve hn hk hv => ?_))
    · simp only [sx, argsFr, Sq, SI.wanted, AFr.ev, AFr.evV, AFr.get, AFr.box, AFr.put, AFr.setb, AV.val, callee, evArgs, aBin, aUn, oneCell, cellsOf, Value.cells, evParts, evElems, evAll, fillP, zeros, RetK, resAll, resOf, tupleOf, bnd, intOf?, AFr.keep, RefT.cells, undef, Nat.reduceBEq, Nat.reduceAdd, Nat.reduceMul, Nat.reduceLeDiff, Nat.reduceEqDiff, reduceCtorEq, Int.reduceEq, Int.reduceLT, Int.reduceLE, Int.reduceAdd, Int.reduceSub]
      exact h0 (List.eq_nil_of_length_eq_zero (by omega)) N' σ' hi hmm
    · obtain ⟨b7, c7, rfl⟩ := hv.shape
      simp only [sx, argsFr, Sq, SI.wanted, AFr.ev, AFr.evV, AFr.get, AFr.box, AFr.put, AFr.setb, AV.val, callee, evArgs, aBin, aUn, oneCell, cellsOf, Value.cells, evParts, evElems, evAll, fillP, zeros, RetK, resAll, resOf, tupleOf, bnd, intOf?, AFr.keep, RefT.cells, undef, Nat.reduceBEq, Nat.reduceAdd, Nat.reduceMul, Nat.reduceLeDiff, Nat.reduceEqDiff, reduceCtorEq, Int.reduceEq, Int.reduceLT, Int.reduceLE, Int.reduceAdd, Int.reduceSub]
      refine h1 e _ N' σ' ?_ hi hv hmm
      rw [List.getLast?_eq_getElem?]
      rw [show (secP (floorB name) l).length - 1 = k by omega]
      exact hk

theorem c32 {D0 N σ s s' pv} {r : RefT} {ps : List ByteArray} {l : List SeenT} (hh : P.is D0 N σ s) (hD : ∀ b ∈ D0, b < σ.size) (hp : SlR strK (N ++ D0) σ pv ps) (hok : allP P 8 s [] r = (.ok l, s')) (hbd : l.length ≤ 100000) (hes : ∀ x ∈ l, x.node.es.length ≤ 1000)
    (hsec : (secP (namedB ps) l).length ≤ 100000) {R : Value → AHeap → Prop}
    (hR : ∀ v' N' σ', P.is D0 N' σ' s' → SlR strK (N' ++ D0) σ' v' ((secP (namedB ps) l).map (·.name)) → Mv N σ N' σ' → R (.tuple #[v', .int .i64 0]) σ') :
    C A 32 [.iface P.ti P.pv, .agg #[.int .u64 r.key, .int .i64 r.seg, .int .i64 r.off, .int .i64 r.len], pv] σ R := by
  refine C_fn s32 (hA.at rfl) ?_
  obtain ⟨bp, cp, rfl⟩ := hp.shape
  simp only [s32, sx, argsFr, Sq, SI.wanted, AFr.ev, AFr.evV, AFr.get, AFr.box, AFr.put, AFr.setb, AV.val, callee, evArgs, aBin, aUn, oneCell, cellsOf, Value.cells, evParts, evElems, evAll, fillP, zeros, RetK, resAll, resOf, tupleOf, bnd, intOf?, AFr.keep, RefT.cells, undef, Nat.reduceBEq, Nat.reduceAdd, Nat.reduceMul, Nat.reduceLeDiff, Nat.reduceEqDiff, reduceCtorEq, Int.reduceEq, Int.reduceLT, Int.reduceLE, Int.reduceAdd, Int.reduceSub]
  have hN := P.lt hh
  have hbk : ∃ Bk : List Nat, (∀ q ∈ Bk, q < σ.size ∧ q ∉ N) ∧ ∀ τ : AHeap, (∀ q ∈ Bk, τ[q]? = σ[q]?) → SlR strK [] τ (.slice bp ps.length cp) ps := by
    generalize hv : Value.slice bp ps.length cp = v at hp
    cases hp with
    | nil => exact ⟨[], by simp, fun _ _ => .nil⟩
    | emp b off c hc => exact ⟨[], by simp, fun _ _ => .emp b off c hc⟩
    | row b off c cs e m hn hc hDb hb hl h =>
      refine ⟨[b], fun q hq => ?_, fun τ hτ => ?_⟩
      · simp at hq
        subst hq
        exact ⟨lt_of_get hb, fun hq => hDb (by simp [hq])⟩
      · exact .row b off c cs e m hn hc (by simp) ((hτ b (by simp)).trans hb) hl fun i x hx => h i x hx
  obtain ⟨Bk, hk1, hk2⟩ := hbk
  refine Or.inl (c60 hA P (caps := [.pointer (some ⟨σ.size, 0, none⟩)]) (p := namedB ps) (Bk := σ.size :: Bk) (P.step hh (Mv.push D0 σ _)) (fun q hq => by have := hD q hq; simp; omega) (fun q hq => ?_) (fun τ hτ D v e hv R' hR' => ?_) hok hbd hes
    (fun v' N' σ' hi ho hm => ?_))
  · rcases List.mem_cons.1 hq with rfl | hq
    · exact ⟨by simp, fun hn => by have := hN _ hn; omega⟩
    · obtain ⟨h1, h2⟩ := hk1 q hq
      exact ⟨by simp; omega, h2⟩
  · refine c65 hA (m1 := .W) (e1 := 0) ((hτ _ (by simp)).trans ?_) (hk2 τ fun q hq => (hτ q (by simp [hq])).trans ?_) hv hR'
    · rw [Array.getElem?_push, if_pos rfl]
    · rw [Array.getElem?_push, if_neg (by have := (hk1 q hq).1; omega)]
  · have hmm := (Mv.push N σ (.row [.slice bp ps.length cp] 0 .W)).trans hm
    obtain ⟨b, c, rfl⟩ := ho.shape
    generalize hL : secP (namedB ps) l = L at *
    have hDN : ∀ q ∈ N' ++ D0, q < σ'.size := lt_app (fun q hq => P.lt hi q hq) hD hmm.size
    simp only [sx, argsFr, Sq, SI.wanted, AFr.ev, AFr.evV, AFr.get, AFr.box, AFr.put, AFr.setb, AV.val, callee, evArgs, aBin, aUn, oneCell, cellsOf, Value.cells, evParts, evElems, evAll, fillP, zeros, RetK, resAll, resOf, tupleOf, bnd, intOf?, AFr.keep, RefT.cells, undef, Nat.reduceBEq, Nat.reduceAdd, Nat.reduceMul, Nat.reduceLeDiff, Nat.reduceEqDiff, reduceCtorEq, Int.reduceEq, Int.reduceLT, Int.reduceLE, Int.reduceAdd, Int.reduceSub]
    refine Lp_ind (fun i => L.length - i) (fun i f τ => ∃ v No, f.keep [9, 10, 20, 21, 22] [] = some ⟨[(9, .v (.int .i64 0)), (10, .v v), (20, .v (.slice b L.length c)), (21, .v (.int .i64 L.length)), (22, .v (.int .i64 i))], []⟩ ∧
      i ≤ L.length ∧ Own strK (N' ++ D0) τ No v ((L.take i).map (·.name)) ∧ Mv [] σ' No τ) ?_ 0 _ _ ⟨_, [], rfl, Nat.zero_le _, .nil, Mv.refl _ _⟩
    rintro i f τ ⟨v, No, hkp, hi2, ho2, hm2⟩ ih
    rw [St_seq, St_keep hkp]
    clear hkp
    simp only [sx, argsFr, Sq, SI.wanted, AFr.ev, AFr.evV, AFr.get, AFr.box, AFr.put, AFr.setb, AV.val, callee, evArgs, aBin, aUn, oneCell, cellsOf, Value.cells, evParts, evElems, evAll, fillP, zeros, RetK, resAll, resOf, tupleOf, bnd, intOf?, AFr.keep, RefT.cells, undef, Nat.reduceBEq, Nat.reduceAdd, Nat.reduceMul, Nat.reduceLeDiff, Nat.reduceEqDiff, reduceCtorEq, Int.reduceEq, Int.reduceLT, Int.reduceLE, Int.reduceAdd, Int.reduceSub]
    refine Cd_split (fun hc2 => ?_) (fun hc2 => ?_)
    · have hi' : i < L.length := by simpa using hc2
      have hoτ := ho.step (hm2.mono (E := N' ++ D0) (E' := No ++ (N' ++ D0)) (by simp) (fun q hq => by simpa [or_assoc] using hq))
      obtain ⟨p1, o1, cs1, e1, m1, cells1, rfl, hb1, hcut1, ve1, rfl, hvs⟩ := hoτ.atN (j := 2) rfl (List.getElem?_eq_getElem hi')
      obtain ⟨b7, c7, rfl⟩ := hvs.shape
      simp only [sx, argsFr, Sq, SI.wanted, AFr.ev, AFr.evV, AFr.get, AFr.box, AFr.put, AFr.setb, AV.val, callee, evArgs, aBin, aUn, oneCell, cellsOf, Value.cells, evParts, evElems, evAll, fillP, zeros, RetK, resAll, resOf, tupleOf, bnd, intOf?, AFr.keep, RefT.cells, undef, Nat.reduceBEq, Nat.reduceAdd, Nat.reduceMul, Nat.reduceLeDiff, Nat.reduceEqDiff, reduceCtorEq, Int.reduceEq, Int.reduceLT, Int.reduceLE, Int.reduceAdd, Int.reduceSub, hi', hb1, hcut1]
      have hDN2 : ∀ q ∈ No ++ (N' ++ D0), q < τ.size := lt_app ho2.lt hDN hm2.size
      refine Sr_app (K := strK) (D := N' ++ D0) (N := No) (ys := [L[i].name]) (new := [.string L[i].name])
        (by simp only [sx, argsFr, Sq, SI.wanted, AFr.ev, AFr.evV, AFr.get, AFr.box, AFr.put, AFr.setb, AV.val, callee, evArgs, aBin, aUn, oneCell, cellsOf, Value.cells, evParts, evElems, evAll, fillP, zeros, RetK, resAll, resOf, tupleOf, bnd, intOf?, AFr.keep, RefT.cells, undef, Nat.reduceBEq, Nat.reduceAdd, Nat.reduceMul, Nat.reduceLeDiff, Nat.reduceEqDiff, reduceCtorEq, Int.reduceEq, Int.reduceLT, Int.reduceLE, Int.reduceAdd, Int.reduceSub]) (ho2.step (Mv.push _ τ _)) rfl (by decide) (by simp [srcOf, AFr.ev, AFr.get, AFr.put, List.lookup]) rfl (Kd.list_one rfl)
        rfl (by unfold maxN; simp only [List.length_map, List.length_take, List.length_singleton]; omega) (fun v3 No3 τ3 ho3 hm3 => ?_) (fun q hq => by have := hDN2 q (by simp only [List.mem_append] at hq ⊢; grind); simp; omega)
      simp only [sx, argsFr, Sq, SI.wanted, AFr.ev, AFr.evV, AFr.get, AFr.box, AFr.put, AFr.setb, AV.val, callee, evArgs, aBin, aUn, oneCell, cellsOf, Value.cells, evParts, evElems, evAll, fillP, zeros, RetK, resAll, resOf, tupleOf, bnd, intOf?, AFr.keep, RefT.cells, undef, Nat.reduceBEq, Nat.reduceAdd, Nat.reduceMul, Nat.reduceLeDiff, Nat.reduceEqDiff, reduceCtorEq, Int.reduceEq, Int.reduceLT, Int.reduceLE, Int.reduceAdd, Int.reduceSub]
      refine ih (i + 1) _ _ (by omega) ⟨v3, No3, ?_, by omega, ?_, hm2.trans ((Mv.push No τ _).trans hm3)⟩
      · simp only [sx, argsFr, Sq, SI.wanted, AFr.ev, AFr.evV, AFr.get, AFr.box, AFr.put, AFr.setb, AV.val, callee, evArgs, aBin, aUn, oneCell, cellsOf, Value.cells, evParts, evElems, evAll, fillP, zeros, RetK, resAll, resOf, tupleOf, bnd, intOf?, AFr.keep, RefT.cells, undef, Nat.reduceBEq, Nat.reduceAdd, Nat.reduceMul, Nat.reduceLeDiff, Nat.reduceEqDiff, reduceCtorEq, Int.reduceEq, Int.reduceLT, Int.reduceLE, Int.reduceAdd, Int.reduceSub, wrap_up (show i ≤ 1000000000000000 by omega)]
      · rw [List.take_succ_eq_append_getElem hi', List.map_append]
        exact ho3
    · simp only [sx, argsFr, Sq, SI.wanted, AFr.ev, AFr.evV, AFr.get, AFr.box, AFr.put, AFr.setb, AV.val, callee, evArgs, aBin, aUn, oneCell, cellsOf, Value.cells, evParts, evElems, evAll, fillP, zeros, RetK, resAll, resOf, tupleOf, bnd, intOf?, AFr.keep, RefT.cells, undef, Nat.reduceBEq, Nat.reduceAdd, Nat.reduceMul, Nat.reduceLeDiff, Nat.reduceEqDiff, reduceCtorEq, Int.reduceEq, Int.reduceLT, Int.reduceLE, Int.reduceAdd, Int.reduceSub]
      have hil : i = L.length := by simp at hc2; omega
      subst hil
      rw [List.take_length] at ho2
      refine Or.inl (c69 hA ho2 (fun v9 h9 => ?_))
      simp only [sx, argsFr, Sq, SI.wanted, AFr.ev, AFr.evV, AFr.get, AFr.box, AFr.put, AFr.setb, AV.val, callee, evArgs, aBin, aUn, oneCell, cellsOf, Value.cells, evParts, evElems, evAll, fillP, zeros, RetK, resAll, resOf, tupleOf, bnd, intOf?, AFr.keep, RefT.cells, undef, Nat.reduceBEq, Nat.reduceAdd, Nat.reduceMul, Nat.reduceLeDiff, Nat.reduceEqDiff, reduceCtorEq, Int.reduceEq, Int.reduceLT, Int.reduceLE, Int.reduceAdd, Int.reduceSub]
      exact hR v9 N' τ (P.step hi (hm2.any D0)) h9 (hmm.trans (hm2.any N'))
end
end Go.Proofs.Ytbldkkabkijpgaa

namespace Go.Proofs.Ytbldkkabkijpgaa
open Go.Am

/-- Does a text stand in a list? -/
def memB (x : ByteArray) (l : List ByteArray) : Bool := l.any fun w => decide (w = x)

set_option linter.unusedSimpArgs false
section
variable {A : AProg} (hA : Prg A)
include hA

theorem c35 {D σ v} {l : List ByteArray} {x : ByteArray} (h : SlR strK D σ v l) {R : Value → AHeap → Prop} (hR : R (.bool (memB x l)) σ) : C A 35 [v, .string x] σ R := by
  refine C_fn s35 (hA.at rfl) ?_
  obtain ⟨base, c, rfl⟩ := h.shape
  have hmx := h.bound
  unfold maxN at hmx
  simp only [s35, sx, argsFr, Sq, SI.wanted, AFr.ev, AFr.evV, AFr.get, AFr.box, AFr.put, AFr.setb, AV.val, callee, evArgs, aBin, aUn, oneCell, cellsOf, Value.cells, evParts, evElems, evAll, fillP, zeros, RetK, resAll, resOf, tupleOf, bnd, intOf?, AFr.keep, RefT.cells, undef, Nat.reduceBEq, Nat.reduceAdd, Nat.reduceMul, Nat.reduceLeDiff, Nat.reduceEqDiff, reduceCtorEq, Int.reduceEq, Int.reduceLT, Int.reduceLE, Int.reduceAdd, Int.reduceSub]
  refine Lp_ind (fun i => l.length - i) (fun i f σ1 => σ1 = σ ∧ f.keep [1, 7, 8, 9] [] = some ⟨[(1, .v (.string x)), (7, .v (.slice base l.length c)), (8, .v (.int .i64 l.length)), (9, .v (.int .i64 i))], []⟩ ∧
    i ≤ l.length ∧ memB x l = memB x (l.drop i)) ?_ 0 _ _ ⟨rfl, rfl, Nat.zero_le _, rfl⟩
  rintro i f σ1 ⟨rfl, hkp, hi, hb⟩ ih
  rw [St_seq, St_keep hkp]
  simp only [sx, argsFr, Sq, SI.wanted, AFr.ev, AFr.evV, AFr.get, AFr.box, AFr.put, AFr.setb, AV.val, callee, evArgs, aBin, aUn, oneCell, cellsOf, Value.cells, evParts, evElems, evAll, fillP, zeros, RetK, resAll, resOf, tupleOf, bnd, intOf?, AFr.keep, RefT.cells, undef, Nat.reduceBEq, Nat.reduceAdd, Nat.reduceMul, Nat.reduceLeDiff, Nat.reduceEqDiff, reduceCtorEq, Int.reduceEq, Int.reduceLT, Int.reduceLE, Int.reduceAdd, Int.reduceSub]
  refine Cd_split (fun ht => ?_) (fun ht => ?_)
  · have hi' : i < l.length := by simpa using ht
    obtain ⟨b, off, cs, e, m, u, rfl, hbb, hcut, hu⟩ := h.at1 (List.getElem?_eq_getElem hi') rfl
    have hu' : u = .string l[i] := by simpa [strK, Kd.flat] using hu
    subst hu'
    rw [List.drop_eq_getElem_cons hi', memB, memB, List.any_cons] at hb
    by_cases he : l[i] = x
    · simp only [sx, argsFr, Sq, SI.wanted, AFr.ev, AFr.evV, AFr.get, AFr.box, AFr.put, AFr.setb, AV.val, callee, evArgs, aBin, aUn, oneCell, cellsOf, Value.cells, evParts, evElems, evAll, fillP, zeros, RetK, resAll, resOf, tupleOf, bnd, intOf?, AFr.keep, RefT.cells, undef, Nat.reduceBEq, Nat.reduceAdd, Nat.reduceMul, Nat.reduceLeDiff, Nat.reduceEqDiff, reduceCtorEq, Int.reduceEq, Int.reduceLT, Int.reduceLE, Int.reduceAdd, Int.reduceSub, hi', hbb, hcut, he]
      rw [memB, hb, he] at hR
      simp only [decide_true, Bool.true_or] at hR
      exact hR
    · simp only [sx, argsFr, Sq, SI.wanted, AFr.ev, AFr.evV, AFr.get, AFr.box, AFr.put, AFr.setb, AV.val, callee, evArgs, aBin, aUn, oneCell, cellsOf, Value.cells, evParts, evElems, evAll, fillP, zeros, RetK, resAll, resOf, tupleOf, bnd, intOf?, AFr.keep, RefT.cells, undef, Nat.reduceBEq, Nat.reduceAdd, Nat.reduceMul, Nat.reduceLeDiff, Nat.reduceEqDiff, reduceCtorEq, Int.reduceEq, Int.reduceLT, Int.reduceLE, Int.reduceAdd, Int.reduceSub, hi', hbb, hcut, he]
      refine ih (i + 1) _ _ (by omega) ⟨rfl, ?_, by omega, by simpa [memB, he] using hb⟩
      simp only [sx, argsFr, Sq, SI.wanted, AFr.ev, AFr.evV, AFr.get, AFr.box, AFr.put, AFr.setb, AV.val, callee, evArgs, aBin, aUn, oneCell, cellsOf, Value.cells, evParts, evElems, evAll, fillP, zeros, RetK, resAll, resOf, tupleOf, bnd, intOf?, AFr.keep, RefT.cells, undef, Nat.reduceBEq, Nat.reduceAdd, Nat.reduceMul, Nat.reduceLeDiff, Nat.reduceEqDiff, reduceCtorEq, Int.reduceEq, Int.reduceLT, Int.reduceLE, Int.reduceAdd, Int.reduceSub, wrap_up (show i ≤ 1000000000000000 by omega)]
  · simp only [sx, argsFr, Sq, SI.wanted, AFr.ev, AFr.evV, AFr.get, AFr.box, AFr.put, AFr.setb, AV.val, callee, evArgs, aBin, aUn, oneCell, cellsOf, Value.cells, evParts, evElems, evAll, fillP, zeros, RetK, resAll, resOf, tupleOf, bnd, intOf?, AFr.keep, RefT.cells, undef, Nat.reduceBEq, Nat.reduceAdd, Nat.reduceMul, Nat.reduceLeDiff, Nat.reduceEqDiff, reduceCtorEq, Int.reduceEq, Int.reduceLT, Int.reduceLE, Int.reduceAdd, Int.reduceSub]
    have : i = l.length := by simp at ht; omega
    subst this
    rw [List.drop_length] at hb
    rw [hb] at hR
    exact hR

theorem c33 {D D' σ v w} {xs ys : List ByteArray} (hx : SlR strK D σ v xs) (hy : SlR strK D' σ w ys) {R : Value → AHeap → Prop} (hR : R (.bool (decide (xs = ys))) σ) : C A 33 [v, w] σ R := by
  refine C_fn s33 (hA.at rfl) ?_
  obtain ⟨b1, c1, rfl⟩ := hx.shape
  obtain ⟨b2, c2, rfl⟩ := hy.shape
  have hmx := hx.bound
  unfold maxN at hmx
  by_cases hl : xs.length = ys.length
  rotate_left
  · have : ¬ ((xs.length : Int) = (ys.length : Int)) := by omega
    have hne : decide (xs = ys) = false := by simpa using fun e => hl (by rw [e])
    rw [hne] at hR
    simp only [s33, sx, argsFr, Sq, SI.wanted, AFr.ev, AFr.evV, AFr.get, AFr.box, AFr.put, AFr.setb, AV.val, callee, evArgs, aBin, aUn, oneCell, cellsOf, Value.cells, evParts, evElems, evAll, fillP, zeros, RetK, resAll, resOf, tupleOf, bnd, intOf?, AFr.keep, RefT.cells, undef, Nat.reduceBEq, Nat.reduceAdd, Nat.reduceMul, Nat.reduceLeDiff, Nat.reduceEqDiff, reduceCtorEq, Int.reduceEq, Int.reduceLT, Int.reduceLE, Int.reduceAdd, Int.reduceSub, this]
    exact hR
  · have hl' : ((xs.length : Int) = (ys.length : Int)) := by omega
    simp only [s33, sx, argsFr, Sq, SI.wanted, AFr.ev, AFr.evV, AFr.get, AFr.box, AFr.put, AFr.setb, AV.val, callee, evArgs, aBin, aUn, oneCell, cellsOf, Value.cells, evParts, evElems, evAll, fillP, zeros, RetK, resAll, resOf, tupleOf, bnd, intOf?, AFr.keep, RefT.cells, undef, Nat.reduceBEq, Nat.reduceAdd, Nat.reduceMul, Nat.reduceLeDiff, Nat.reduceEqDiff, reduceCtorEq, Int.reduceEq, Int.reduceLT, Int.reduceLE, Int.reduceAdd, Int.reduceSub, hl']
    refine Lp_ind (fun i => xs.length - i) (fun i f σ1 => σ1 = σ ∧ f.keep [0, 1, 12, 13] [] = some ⟨[(0, .v (.slice b1 xs.length c1)), (1, .v (.slice b2 ys.length c2)), (12, .v (.int .i64 xs.length)), (13, .v (.int .i64 i))], []⟩ ∧
      i ≤ xs.length ∧ (xs = ys ↔ xs.drop i = ys.drop i)) ?_ 0 _ _ ⟨rfl, by rw [hl]; rfl, Nat.zero_le _, Iff.rfl⟩
    rintro i f σ1 ⟨rfl, hkp, hi, hb⟩ ih
    rw [St_seq, St_keep hkp]
    simp only [sx, argsFr, Sq, SI.wanted, AFr.ev, AFr.evV, AFr.get, AFr.box, AFr.put, AFr.setb, AV.val, callee, evArgs, aBin, aUn, oneCell, cellsOf, Value.cells, evParts, evElems, evAll, fillP, zeros, RetK, resAll, resOf, tupleOf, bnd, intOf?, AFr.keep, RefT.cells, undef, Nat.reduceBEq, Nat.reduceAdd, Nat.reduceMul, Nat.reduceLeDiff, Nat.reduceEqDiff, reduceCtorEq, Int.reduceEq, Int.reduceLT, Int.reduceLE, Int.reduceAdd, Int.reduceSub]
    refine Cd_split (fun ht => ?_) (fun ht => ?_)
    · have hi' : i < xs.length := by simpa using ht
      have hj' : i < ys.length := by omega
      obtain ⟨p1, o1, cs1, e1, m1, u1, rfl, hb1, hcut1, hu1⟩ := hx.at1 (List.getElem?_eq_getElem hi') rfl
      obtain ⟨p2, o2, cs2, e2, m2, u2, rfl, hb2, hcut2, hu2⟩ := hy.at1 (List.getElem?_eq_getElem hj') rfl
      have hu1' : u1 = .string xs[i] := by simpa [strK, Kd.flat] using hu1
      have hu2' : u2 = .string ys[i] := by simpa [strK, Kd.flat] using hu2
      subst hu1' hu2'
      by_cases he : xs[i] = ys[i]
      · simp only [sx, argsFr, Sq, SI.wanted, AFr.ev, AFr.evV, AFr.get, AFr.box, AFr.put, AFr.setb, AV.val, callee, evArgs, aBin, aUn, oneCell, cellsOf, Value.cells, evParts, evElems, evAll, fillP, zeros, RetK, resAll, resOf, tupleOf, bnd, intOf?, AFr.keep, RefT.cells, undef, Nat.reduceBEq, Nat.reduceAdd, Nat.reduceMul, Nat.reduceLeDiff, Nat.reduceEqDiff, reduceCtorEq, Int.reduceEq, Int.reduceLT, Int.reduceLE, Int.reduceAdd, Int.reduceSub, hi', hj', hb1, hcut1, hb2, hcut2, he]
        refine ⟨rfl, ih (i + 1) _ _ (by omega) ⟨rfl, ?_, by omega, hb.trans (list_eq_drop hi' hj' he)⟩⟩
        simp only [sx, argsFr, Sq, SI.wanted, AFr.ev, AFr.evV, AFr.get, AFr.box, AFr.put, AFr.setb, AV.val, callee, evArgs, aBin, aUn, oneCell, cellsOf, Value.cells, evParts, evElems, evAll, fillP, zeros, RetK, resAll, resOf, tupleOf, bnd, intOf?, AFr.keep, RefT.cells, undef, Nat.reduceBEq, Nat.reduceAdd, Nat.reduceMul, Nat.reduceLeDiff, Nat.reduceEqDiff, reduceCtorEq, Int.reduceEq, Int.reduceLT, Int.reduceLE, Int.reduceAdd, Int.reduceSub, wrap_up (show i ≤ 1000000000000000 by omega)]
      · simp only [sx, argsFr, Sq, SI.wanted, AFr.ev, AFr.evV, AFr.get, AFr.box, AFr.put, AFr.setb, AV.val, callee, evArgs, aBin, aUn, oneCell, cellsOf, Value.cells, evParts, evElems, evAll, fillP, zeros, RetK, resAll, resOf, tupleOf, bnd, intOf?, AFr.keep, RefT.cells, undef, Nat.reduceBEq, Nat.reduceAdd, Nat.reduceMul, Nat.reduceLeDiff, Nat.reduceEqDiff, reduceCtorEq, Int.reduceEq, Int.reduceLT, Int.reduceLE, Int.reduceAdd, Int.reduceSub, hi', hj', hb1, hcut1, hb2, hcut2, he]
        have hne : decide (xs = ys) = false := by simpa using fun e : xs = ys => he (by simp [e])
        rw [hne] at hR
        exact ⟨rfl, hR⟩
    · simp only [sx, argsFr, Sq, SI.wanted, AFr.ev, AFr.evV, AFr.get, AFr.box, AFr.put, AFr.setb, AV.val, callee, evArgs, aBin, aUn, oneCell, cellsOf, Value.cells, evParts, evElems, evAll, fillP, zeros, RetK, resAll, resOf, tupleOf, bnd, intOf?, AFr.keep, RefT.cells, undef, Nat.reduceBEq, Nat.reduceAdd, Nat.reduceMul, Nat.reduceLeDiff, Nat.reduceEqDiff, reduceCtorEq, Int.reduceEq, Int.reduceLT, Int.reduceLE, Int.reduceAdd, Int.reduceSub]
      have : i = xs.length := by simp at ht; omega
      subst this
      have he : decide (xs = ys) = true := by
        rw [decide_eq_true_eq, hb, List.drop_length, List.drop_eq_nil_of_le (by omega)]
      rw [he] at hR
      exact hR

theorem c70 {D σ v} {ps : List ByteArray} {name : ByteArray} {vs : List Ver} (h : SlR strK D σ v ps) {R : Value → AHeap → Prop} (hR : R (.bool (namedB ps ⟨name, vs⟩)) σ) : C A 70 [.string name, v] σ R := by
  refine C_fn s70 (hA.at rfl) ?_
  obtain ⟨base, c, rfl⟩ := h.shape
  have hmx := h.bound
  unfold maxN at hmx
  unfold namedB at hR
  simp only [s70, sx, argsFr, Sq, SI.wanted, AFr.ev, AFr.evV, AFr.get, AFr.box, AFr.put, AFr.setb, AV.val, callee, evArgs, aBin, aUn, oneCell, cellsOf, Value.cells, evParts, evElems, evAll, fillP, zeros, RetK, resAll, resOf, tupleOf, bnd, intOf?, AFr.keep, RefT.cells, undef, Nat.reduceBEq, Nat.reduceAdd, Nat.reduceMul, Nat.reduceLeDiff, Nat.reduceEqDiff, reduceCtorEq, Int.reduceEq, Int.reduceLT, Int.reduceLE, Int.reduceAdd, Int.reduceSub]
  refine Lp_ind (fun i => ps.length - i) (fun i f σ1 => σ1 = σ ∧ f.keep [0, 1, 7, 8, 9] [] = some ⟨[(0, .v (.string name)), (1, .v (.slice base ps.length c)), (7, .v (.slice base ps.length c)), (8, .v (.int .i64 ps.length)), (9, .v (.int .i64 i))], []⟩ ∧
    i ≤ ps.length ∧ (ps.any fun w => begB name w) = (ps.drop i).any fun w => begB name w) ?_ 0 _ _ ⟨rfl, rfl, Nat.zero_le _, rfl⟩
  rintro i f σ1 ⟨rfl, hkp, hi, hb⟩ ih
  rw [St_seq, St_keep hkp]
  simp only [sx, argsFr, Sq, SI.wanted, AFr.ev, AFr.evV, AFr.get, AFr.box, AFr.put, AFr.setb, AV.val, callee, evArgs, aBin, aUn, oneCell, cellsOf, Value.cells, evParts, evElems, evAll, fillP, zeros, RetK, resAll, resOf, tupleOf, bnd, intOf?, AFr.keep, RefT.cells, undef, Nat.reduceBEq, Nat.reduceAdd, Nat.reduceMul, Nat.reduceLeDiff, Nat.reduceEqDiff, reduceCtorEq, Int.reduceEq, Int.reduceLT, Int.reduceLE, Int.reduceAdd, Int.reduceSub]
  refine Cd_split (fun ht => ?_) (fun ht => ?_)
  · have hi' : i < ps.length := by simpa using ht
    obtain ⟨b, off, cs, e, m, u, rfl, hbb, hcut, hu⟩ := h.at1 (List.getElem?_eq_getElem hi') rfl
    have hu' : u = .string ps[i] := by simpa [strK, Kd.flat] using hu
    subst hu'
    rw [List.drop_eq_getElem_cons hi', List.any_cons] at hb
    simp only [sx, argsFr, Sq, SI.wanted, AFr.ev, AFr.evV, AFr.get, AFr.box, AFr.put, AFr.setb, AV.val, callee, evArgs, aBin, aUn, oneCell, cellsOf, Value.cells, evParts, evElems, evAll, fillP, zeros, RetK, resAll, resOf, tupleOf, bnd, intOf?, AFr.keep, RefT.cells, undef, Nat.reduceBEq, Nat.reduceAdd, Nat.reduceMul, Nat.reduceLeDiff, Nat.reduceEqDiff, reduceCtorEq, Int.reduceEq, Int.reduceLT, Int.reduceLE, Int.reduceAdd, Int.reduceSub, hi', hbb, hcut]
    refine Or.inl (c104 hA ?_)
    cases hqi : begB name ps[i] with
    | true =>
      simp only [sx, argsFr, Sq, SI.wanted, AFr.ev, AFr.evV, AFr.get, AFr.box, AFr.put, AFr.setb, AV.val, callee, evArgs, aBin, aUn, oneCell, cellsOf, Value.cells, evParts, evElems, evAll, fillP, zeros, RetK, resAll, resOf, tupleOf, bnd, intOf?, AFr.keep, RefT.cells, undef, Nat.reduceBEq, Nat.reduceAdd, Nat.reduceMul, Nat.reduceLeDiff, Nat.reduceEqDiff, reduceCtorEq, Int.reduceEq, Int.reduceLT, Int.reduceLE, Int.reduceAdd, Int.reduceSub, hqi]
      rw [hb, hqi, Bool.true_or, Bool.or_true] at hR
      exact hR
    | false =>
      simp only [sx, argsFr, Sq, SI.wanted, AFr.ev, AFr.evV, AFr.get, AFr.box, AFr.put, AFr.setb, AV.val, callee, evArgs, aBin, aUn, oneCell, cellsOf, Value.cells, evParts, evElems, evAll, fillP, zeros, RetK, resAll, resOf, tupleOf, bnd, intOf?, AFr.keep, RefT.cells, undef, Nat.reduceBEq, Nat.reduceAdd, Nat.reduceMul, Nat.reduceLeDiff, Nat.reduceEqDiff, reduceCtorEq, Int.reduceEq, Int.reduceLT, Int.reduceLE, Int.reduceAdd, Int.reduceSub, hqi]
      rw [hqi, Bool.false_or] at hb
      refine ih (i + 1) _ _ (by omega) ⟨rfl, ?_, by omega, hb⟩
      simp only [sx, argsFr, Sq, SI.wanted, AFr.ev, AFr.evV, AFr.get, AFr.box, AFr.put, AFr.setb, AV.val, callee, evArgs, aBin, aUn, oneCell, cellsOf, Value.cells, evParts, evElems, evAll, fillP, zeros, RetK, resAll, resOf, tupleOf, bnd, intOf?, AFr.keep, RefT.cells, undef, Nat.reduceBEq, Nat.reduceAdd, Nat.reduceMul, Nat.reduceLeDiff, Nat.reduceEqDiff, reduceCtorEq, Int.reduceEq, Int.reduceLT, Int.reduceLE, Int.reduceAdd, Int.reduceSub, wrap_up (show i ≤ 1000000000000000 by omega)]
  · have : i = ps.length := by simp at ht; omega
    subst this
    rw [List.drop_length] at hb
    rw [hb, List.any_nil, Bool.or_false] at hR
    have e : decide (ps = []) = decide ((ps.length : Int) = 0) := by
      rw [Bool.eq_iff_iff]
      simp
    rw [e] at hR
    simp only [sx, argsFr, Sq, SI.wanted, AFr.ev, AFr.evV, AFr.get, AFr.box, AFr.put, AFr.setb, AV.val, callee, evArgs, aBin, aUn, oneCell, cellsOf, Value.cells, evParts, evElems, evAll, fillP, zeros, RetK, resAll, resOf, tupleOf, bnd, intOf?, AFr.keep, RefT.cells, undef, Nat.reduceBEq, Nat.reduceAdd, Nat.reduceMul, Nat.reduceLeDiff, Nat.reduceEqDiff, reduceCtorEq, Int.reduceEq, Int.reduceLT, Int.reduceLE, Int.reduceAdd, Int.reduceSub]
    exact hR

theorem c34 {D σ v pv} {l : List Ent} {ps : List ByteArray} (h : SlR entK D σ v l) (hp : SlR strK D σ pv ps) (hD : ∀ b ∈ D, b < σ.size) (hl : l.length ≤ 1000) {R : Value → AHeap → Prop}
    (hR : ∀ v' N σ', Own strK D σ' N v' ((l.filter (namedB ps)).map (·.name)) → Mv [] σ N σ' → R v' σ') : C A 34 [v, pv] σ R := by
  refine C_fn s34 (hA.at rfl) ?_
  obtain ⟨base, c, rfl⟩ := h.shape
  obtain ⟨bp, cp, rfl⟩ := hp.shape
  simp only [s34, sx, argsFr, Sq, SI.wanted, AFr.ev, AFr.evV, AFr.get, AFr.box, AFr.put, AFr.setb, AV.val, callee, evArgs, aBin, aUn, oneCell, cellsOf, Value.cells, evParts, evElems, evAll, fillP, zeros, RetK, resAll, resOf, tupleOf, bnd, intOf?, AFr.keep, RefT.cells, undef, Nat.reduceBEq, Nat.reduceAdd, Nat.reduceMul, Nat.reduceLeDiff, Nat.reduceEqDiff, reduceCtorEq, Int.reduceEq, Int.reduceLT, Int.reduceLE, Int.reduceAdd, Int.reduceSub]
  refine Lp_ind (fun i => l.length - i) (fun i f τ => ∃ v No, f.keep [1, 5, 9, 10, 11] [] = some ⟨[(1, .v (.slice bp ps.length cp)), (5, .v v), (9, .v (.slice base l.length c)), (10, .v (.int .i64 l.length)), (11, .v (.int .i64 i))], []⟩ ∧
    i ≤ l.length ∧ Own strK D τ No v (((l.take i).filter (namedB ps)).map (·.name)) ∧ Mv [] σ No τ) ?_ 0 _ _ ⟨_, [σ.size], rfl, Nat.zero_le _, by simpa using Own.newEmpty (K := strK) (D := D) (σ := σ) (e := 1) rfl hD, Mv.new [] σ _⟩
  rintro i f τ ⟨v, No, hkp, hi, ho, hm⟩ ih
  rw [St_seq, St_keep hkp]
  clear hkp
  simp only [sx, argsFr, Sq, SI.wanted, AFr.ev, AFr.evV, AFr.get, AFr.box, AFr.put, AFr.setb, AV.val, callee, evArgs, aBin, aUn, oneCell, cellsOf, Value.cells, evParts, evElems, evAll, fillP, zeros, RetK, resAll, resOf, tupleOf, bnd, intOf?, AFr.keep, RefT.cells, undef, Nat.reduceBEq, Nat.reduceAdd, Nat.reduceMul, Nat.reduceLeDiff, Nat.reduceEqDiff, reduceCtorEq, Int.reduceEq, Int.reduceLT, Int.reduceLE, Int.reduceAdd, Int.reduceSub]
  refine Cd_split (fun ht => ?_) (fun ht => ?_)
  · have hi' : i < l.length := by simpa using ht
    have hw : IntKind.i64.wrap ((i : Int) + 1) = ((i + 1 : Nat) : Int) := wrap_up (by omega)
    have hmm : ∀ {E : List Nat}, Mv E σ (No ++ E) τ := fun {E} => hm.mono (by simp) (fun q hq => by simpa using hq)
    obtain ⟨b, off, cs, e, m, cells, rfl, hb, hcut, ve, rfl, hvs⟩ := (h.step hmm).atN (j := 2) rfl (List.getElem?_eq_getElem hi')
    obtain ⟨b7, c7, rfl⟩ := hvs.shape
    simp only [sx, argsFr, Sq, SI.wanted, AFr.ev, AFr.evV, AFr.get, AFr.box, AFr.put, AFr.setb, AV.val, callee, evArgs, aBin, aUn, oneCell, cellsOf, Value.cells, evParts, evElems, evAll, fillP, zeros, RetK, resAll, resOf, tupleOf, bnd, intOf?, AFr.keep, RefT.cells, undef, Nat.reduceBEq, Nat.reduceAdd, Nat.reduceMul, Nat.reduceLeDiff, Nat.reduceEqDiff, reduceCtorEq, Int.reduceEq, Int.reduceLT, Int.reduceLE, Int.reduceAdd, Int.reduceSub, hi', hb, hcut]
    refine Or.inl (c70 hA (vs := l[i].vs) (hp.step hmm) ?_)
    have hn : (⟨l[i].name, l[i].vs⟩ : Ent) = l[i] := rfl
    rw [hn]
    have hfl : ((l.take i).filter (namedB ps)).length ≤ i := Nat.le_trans (List.length_filter_le _ _) (by simp; omega)
    cases hq : namedB ps l[i] with
    | false =>
      simp only [sx, argsFr, Sq, SI.wanted, AFr.ev, AFr.evV, AFr.get, AFr.box, AFr.put, AFr.setb, AV.val, callee, evArgs, aBin, aUn, oneCell, cellsOf, Value.cells, evParts, evElems, evAll, fillP, zeros, RetK, resAll, resOf, tupleOf, bnd, intOf?, AFr.keep, RefT.cells, undef, Nat.reduceBEq, Nat.reduceAdd, Nat.reduceMul, Nat.reduceLeDiff, Nat.reduceEqDiff, reduceCtorEq, Int.reduceEq, Int.reduceLT, Int.reduceLE, Int.reduceAdd, Int.reduceSub]
      refine ih (i + 1) _ _ (by omega) ⟨v, No, ?_, by omega, ?_, hm⟩
      · simp only [sx, argsFr, Sq, SI.wanted, AFr.ev, AFr.evV, AFr.get, AFr.box, AFr.put, AFr.setb, AV.val, callee, evArgs, aBin, aUn, oneCell, cellsOf, Value.cells, evParts, evElems, evAll, fillP, zeros, RetK, resAll, resOf, tupleOf, bnd, intOf?, AFr.keep, RefT.cells, undef, Nat.reduceBEq, Nat.reduceAdd, Nat.reduceMul, Nat.reduceLeDiff, Nat.reduceEqDiff, reduceCtorEq, Int.reduceEq, Int.reduceLT, Int.reduceLE, Int.reduceAdd, Int.reduceSub, hw]
      · rw [List.take_succ_eq_append_getElem hi', List.filter_append]
        simpa [hq] using ho
    | true =>
      simp only [sx, argsFr, Sq, SI.wanted, AFr.ev, AFr.evV, AFr.get, AFr.box, AFr.put, AFr.setb, AV.val, callee, evArgs, aBin, aUn, oneCell, cellsOf, Value.cells, evParts, evElems, evAll, fillP, zeros, RetK, resAll, resOf, tupleOf, bnd, intOf?, AFr.keep, RefT.cells, undef, Nat.reduceBEq, Nat.reduceAdd, Nat.reduceMul, Nat.reduceLeDiff, Nat.reduceEqDiff, reduceCtorEq, Int.reduceEq, Int.reduceLT, Int.reduceLE, Int.reduceAdd, Int.reduceSub]
      refine Sr_app (K := strK) (D := D) (N := No) (ys := [l[i].name]) (new := [.string l[i].name])
        (by simp only [sx, argsFr, Sq, SI.wanted, AFr.ev, AFr.evV, AFr.get, AFr.box, AFr.put, AFr.setb, AV.val, callee, evArgs, aBin, aUn, oneCell, cellsOf, Value.cells, evParts, evElems, evAll, fillP, zeros, RetK, resAll, resOf, tupleOf, bnd, intOf?, AFr.keep, RefT.cells, undef, Nat.reduceBEq, Nat.reduceAdd, Nat.reduceMul, Nat.reduceLeDiff, Nat.reduceEqDiff, reduceCtorEq, Int.reduceEq, Int.reduceLT, Int.reduceLE, Int.reduceAdd, Int.reduceSub]) (ho.step (Mv.push _ τ _)) rfl (by decide) (by simp [srcOf, AFr.ev, AFr.get, AFr.put, List.lookup]) rfl (Kd.list_one rfl)
        rfl (by unfold maxN; simp only [List.length_map, List.length_singleton]; omega) (fun v3 No3 τ3 ho3 hm3 => ?_) (fun q hq => by have := hD q hq; have := hm.size; simp; omega)
      simp only [sx, argsFr, Sq, SI.wanted, AFr.ev, AFr.evV, AFr.get, AFr.box, AFr.put, AFr.setb, AV.val, callee, evArgs, aBin, aUn, oneCell, cellsOf, Value.cells, evParts, evElems, evAll, fillP, zeros, RetK, resAll, resOf, tupleOf, bnd, intOf?, AFr.keep, RefT.cells, undef, Nat.reduceBEq, Nat.reduceAdd, Nat.reduceMul, Nat.reduceLeDiff, Nat.reduceEqDiff, reduceCtorEq, Int.reduceEq, Int.reduceLT, Int.reduceLE, Int.reduceAdd, Int.reduceSub]
      refine ih (i + 1) _ _ (by omega) ⟨v3, No3, ?_, by omega, ?_, hm.trans ((Mv.push No τ _).trans hm3)⟩
      · simp only [sx, argsFr, Sq, SI.wanted, AFr.ev, AFr.evV, AFr.get, AFr.box, AFr.put, AFr.setb, AV.val, callee, evArgs, aBin, aUn, oneCell, cellsOf, Value.cells, evParts, evElems, evAll, fillP, zeros, RetK, resAll, resOf, tupleOf, bnd, intOf?, AFr.keep, RefT.cells, undef, Nat.reduceBEq, Nat.reduceAdd, Nat.reduceMul, Nat.reduceLeDiff, Nat.reduceEqDiff, reduceCtorEq, Int.reduceEq, Int.reduceLT, Int.reduceLE, Int.reduceAdd, Int.reduceSub, hw]
      · rw [List.take_succ_eq_append_getElem hi', List.filter_append, List.map_append]
        simpa [hq] using ho3
  · simp only [sx, argsFr, Sq, SI.wanted, AFr.ev, AFr.evV, AFr.get, AFr.box, AFr.put, AFr.setb, AV.val, callee, evArgs, aBin, aUn, oneCell, cellsOf, Value.cells, evParts, evElems, evAll, fillP, zeros, RetK, resAll, resOf, tupleOf, bnd, intOf?, AFr.keep, RefT.cells, undef, Nat.reduceBEq, Nat.reduceAdd, Nat.reduceMul, Nat.reduceLeDiff, Nat.reduceEqDiff, reduceCtorEq, Int.reduceEq, Int.reduceLT, Int.reduceLE, Int.reduceAdd, Int.reduceSub]
    have hil : i = l.length := by simp at ht; omega
    subst hil
    rw [List.take_length] at ho
    exact hR v No τ ho hm

theorem c30 {D σ v} {l : List Ent} {f t : ByteArray} (h : SlR entK D σ v l) (hD : ∀ b ∈ D, b < σ.size) (hl : l.length ≤ 1000) {R : Value → AHeap → Prop}
    (hR : ∀ v' N σ', Own entK D σ' N v' (l.filter (rangeB f t)) → Mv [] σ N σ' → R v' σ') : C A 30 [v, .string f, .string t] σ R := by
  refine C_fn s30 (hA.at rfl) ?_
  obtain ⟨base, c, rfl⟩ := h.shape
  simp only [s30, sx, argsFr, Sq, SI.wanted, AFr.ev, AFr.evV, AFr.get, AFr.box, AFr.put, AFr.setb, AV.val, callee, evArgs, aBin, aUn, oneCell, cellsOf, Value.cells, evParts, evElems, evAll, fillP, zeros, RetK, resAll, resOf, tupleOf, bnd, intOf?, AFr.keep, RefT.cells, undef, Nat.reduceBEq, Nat.reduceAdd, Nat.reduceMul, Nat.reduceLeDiff, Nat.reduceEqDiff, reduceCtorEq, Int.reduceEq, Int.reduceLT, Int.reduceLE, Int.reduceAdd, Int.reduceSub]
  refine Lp_ind (fun i => l.length - i) (fun i f1 τ => ∃ v No, f1.keep [1, 2, 7, 11, 12, 13] [] = some ⟨[(1, .v (.string f)), (2, .v (.string t)), (7, .v v), (11, .v (.slice base l.length c)), (12, .v (.int .i64 l.length)), (13, .v (.int .i64 i))], []⟩ ∧
    i ≤ l.length ∧ Own entK D τ No v ((l.take i).filter (rangeB f t)) ∧ Mv [] σ No τ) ?_ 0 _ _ ⟨_, [σ.size], rfl, Nat.zero_le _, by simpa using Own.newEmpty (K := entK) (D := D) (σ := σ) (e := 2) rfl hD, Mv.new [] σ _⟩
  rintro i f1 τ ⟨v, No, hkp, hi, ho, hm⟩ ih
  rw [St_seq, St_keep hkp]
  clear hkp
  simp only [sx, argsFr, Sq, SI.wanted, AFr.ev, AFr.evV, AFr.get, AFr.box, AFr.put, AFr.setb, AV.val, callee, evArgs, aBin, aUn, oneCell, cellsOf, Value.cells, evParts, evElems, evAll, fillP, zeros, RetK, resAll, resOf, tupleOf, bnd, intOf?, AFr.keep, RefT.cells, undef, Nat.reduceBEq, Nat.reduceAdd, Nat.reduceMul, Nat.reduceLeDiff, Nat.reduceEqDiff, reduceCtorEq, Int.reduceEq, Int.reduceLT, Int.reduceLE, Int.reduceAdd, Int.reduceSub]
  refine Cd_split (fun ht => ?_) (fun ht => ?_)
  · have hi' : i < l.length := by simpa using ht
    have hw : IntKind.i64.wrap ((i : Int) + 1) = ((i + 1 : Nat) : Int) := wrap_up (by omega)
    have hmm : ∀ {E : List Nat}, Mv E σ (No ++ E) τ := fun {E} => hm.mono (by simp) (fun q hq => by simpa using hq)
    obtain ⟨b, off, cs, e, m, cells, rfl, hb, hcut, ve, rfl, hvs⟩ := (h.step hmm).atN (j := 2) rfl (List.getElem?_eq_getElem hi')
    obtain ⟨b7, c7, rfl⟩ := hvs.shape
    have hfl : ((l.take i).filter (rangeB f t)).length ≤ i := Nat.le_trans (List.length_filter_le _ _) (by simp; omega)
    have no : rangeB f t l[i] = false → ∀ fr : AFr, fr.keep [1, 2, 7, 11, 12, 13] [] = some ⟨[(1, .v (.string f)), (2, .v (.string t)), (7, .v v), (11, .v (.slice (some ⟨b, off, none⟩) l.length c)), (12, .v (.int .i64 l.length)), (13, .v (.int .i64 (i + 1 : Nat)))], []⟩ → Lp A _ _ _ fr τ := fun hq fr hfr =>
      ih (i + 1) fr τ (by omega) ⟨v, No, hfr, by omega, by rw [List.take_succ_eq_append_getElem hi', List.filter_append]; simpa [hq] using ho, hm⟩
    have yes : rangeB f t l[i] = true → ∀ v3 No3 τ3, Own entK D τ3 No3 v3 ((l.take i).filter (rangeB f t) ++ [l[i]]) → Mv No (τ.push (.row [.string l[i].name, .slice b7 l[i].vs.length c7] 2 .W)) No3 τ3 →
        ∀ fr : AFr, fr.keep [1, 2, 7, 11, 12, 13] [] = some ⟨[(1, .v (.string f)), (2, .v (.string t)), (7, .v v3), (11, .v (.slice (some ⟨b, off, none⟩) l.length c)), (12, .v (.int .i64 l.length)), (13, .v (.int .i64 (i + 1 : Nat)))], []⟩ → Lp A _ _ _ fr τ3 := fun hq v3 No3 τ3 ho3 hm3 fr hfr =>
      ih (i + 1) fr τ3 (by omega) ⟨v3, No3, hfr, by omega, by rw [List.take_succ_eq_append_getElem hi', List.filter_append]; simpa [hq] using ho3, hm.trans ((Mv.push No τ _).trans hm3)⟩
    cases hq : Op.bytesLess l[i].name.toList f.toList with
    | true =>
      simp only [sx, argsFr, Sq, SI.wanted, AFr.ev, AFr.evV, AFr.get, AFr.box, AFr.put, AFr.setb, AV.val, callee, evArgs, aBin, aUn, oneCell, cellsOf, Value.cells, evParts, evElems, evAll, fillP, zeros, RetK, resAll, resOf, tupleOf, bnd, intOf?, AFr.keep, RefT.cells, undef, Nat.reduceBEq, Nat.reduceAdd, Nat.reduceMul, Nat.reduceLeDiff, Nat.reduceEqDiff, reduceCtorEq, Int.reduceEq, Int.reduceLT, Int.reduceLE, Int.reduceAdd, Int.reduceSub, hi', hb, hcut, hq]
      refine no (by simp [rangeB, ltB, hq]) _ ?_
      simp only [sx, argsFr, Sq, SI.wanted, AFr.ev, AFr.evV, AFr.get, AFr.box, AFr.put, AFr.setb, AV.val, callee, evArgs, aBin, aUn, oneCell, cellsOf, Value.cells, evParts, evElems, evAll, fillP, zeros, RetK, resAll, resOf, tupleOf, bnd, intOf?, AFr.keep, RefT.cells, undef, Nat.reduceBEq, Nat.reduceAdd, Nat.reduceMul, Nat.reduceLeDiff, Nat.reduceEqDiff, reduceCtorEq, Int.reduceEq, Int.reduceLT, Int.reduceLE, Int.reduceAdd, Int.reduceSub, hw]
    | false =>
      by_cases ht2 : t = ⟨#[]⟩
      · subst ht2
        simp only [sx, argsFr, Sq, SI.wanted, AFr.ev, AFr.evV, AFr.get, AFr.box, AFr.put, AFr.setb, AV.val, callee, evArgs, aBin, aUn, oneCell, cellsOf, Value.cells, evParts, evElems, evAll, fillP, zeros, RetK, resAll, resOf, tupleOf, bnd, intOf?, AFr.keep, RefT.cells, undef, Nat.reduceBEq, Nat.reduceAdd, Nat.reduceMul, Nat.reduceLeDiff, Nat.reduceEqDiff, reduceCtorEq, Int.reduceEq, Int.reduceLT, Int.reduceLE, Int.reduceAdd, Int.reduceSub, hi', hb, hcut, hq]
        refine Sr_app (K := entK) (D := D) (N := No) (ys := [l[i]]) (new := [.string l[i].name, .slice b7 l[i].vs.length c7])
          (by simp only [sx, argsFr, Sq, SI.wanted, AFr.ev, AFr.evV, AFr.get, AFr.box, AFr.put, AFr.setb, AV.val, callee, evArgs, aBin, aUn, oneCell, cellsOf, Value.cells, evParts, evElems, evAll, fillP, zeros, RetK, resAll, resOf, tupleOf, bnd, intOf?, AFr.keep, RefT.cells, undef, Nat.reduceBEq, Nat.reduceAdd, Nat.reduceMul, Nat.reduceLeDiff, Nat.reduceEqDiff, reduceCtorEq, Int.reduceEq, Int.reduceLT, Int.reduceLE, Int.reduceAdd, Int.reduceSub]) (ho.step (Mv.push _ τ _)) rfl (by decide) (by simp [srcOf, AFr.ev, AFr.get, AFr.put, List.lookup]) rfl (Kd.list_one ⟨_, rfl, hvs.step (Mv.push _ τ _)⟩)
          rfl (by unfold maxN; simp only [List.length_singleton]; omega) (fun v3 No3 τ3 ho3 hm3 => ?_) (fun q hq => by have := hD q hq; have := hm.size; simp; omega)
        simp only [sx, argsFr, Sq, SI.wanted, AFr.ev, AFr.evV, AFr.get, AFr.box, AFr.put, AFr.setb, AV.val, callee, evArgs, aBin, aUn, oneCell, cellsOf, Value.cells, evParts, evElems, evAll, fillP, zeros, RetK, resAll, resOf, tupleOf, bnd, intOf?, AFr.keep, RefT.cells, undef, Nat.reduceBEq, Nat.reduceAdd, Nat.reduceMul, Nat.reduceLeDiff, Nat.reduceEqDiff, reduceCtorEq, Int.reduceEq, Int.reduceLT, Int.reduceLE, Int.reduceAdd, Int.reduceSub]
        refine yes (by simp [rangeB, ltB, hq]) v3 No3 τ3 ho3 hm3 _ ?_
        simp only [sx, argsFr, Sq, SI.wanted, AFr.ev, AFr.evV, AFr.get, AFr.box, AFr.put, AFr.setb, AV.val, callee, evArgs, aBin, aUn, oneCell, cellsOf, Value.cells, evParts, evElems, evAll, fillP, zeros, RetK, resAll, resOf, tupleOf, bnd, intOf?, AFr.keep, RefT.cells, undef, Nat.reduceBEq, Nat.reduceAdd, Nat.reduceMul, Nat.reduceLeDiff, Nat.reduceEqDiff, reduceCtorEq, Int.reduceEq, Int.reduceLT, Int.reduceLE, Int.reduceAdd, Int.reduceSub, hw]
      · cases hq2 : Op.bytesLess l[i].name.toList t.toList with
        | true =>
          simp only [sx, argsFr, Sq, SI.wanted, AFr.ev, AFr.evV, AFr.get, AFr.box, AFr.put, AFr.setb, AV.val, callee, evArgs, aBin, aUn, oneCell, cellsOf, Value.cells, evParts, evElems, evAll, fillP, zeros, RetK, resAll, resOf, tupleOf, bnd, intOf?, AFr.keep, RefT.cells, undef, Nat.reduceBEq, Nat.reduceAdd, Nat.reduceMul, Nat.reduceLeDiff, Nat.reduceEqDiff, reduceCtorEq, Int.reduceEq, Int.reduceLT, Int.reduceLE, Int.reduceAdd, Int.reduceSub, hi', hb, hcut, hq, ht2, hq2]
          refine Sr_app (K := entK) (D := D) (N := No) (ys := [l[i]]) (new := [.string l[i].name, .slice b7 l[i].vs.length c7])
            (by simp only [sx, argsFr, Sq, SI.wanted, AFr.ev, AFr.evV, AFr.get, AFr.box, AFr.put, AFr.setb, AV.val, callee, evArgs, aBin, aUn, oneCell, cellsOf, Value.cells, evParts, evElems, evAll, fillP, zeros, RetK, resAll, resOf, tupleOf, bnd, intOf?, AFr.keep, RefT.cells, undef, Nat.reduceBEq, Nat.reduceAdd, Nat.reduceMul, Nat.reduceLeDiff, Nat.reduceEqDiff, reduceCtorEq, Int.reduceEq, Int.reduceLT, Int.reduceLE, Int.reduceAdd, Int.reduceSub]) (ho.step (Mv.push _ τ _)) rfl (by decide) (by simp [srcOf, AFr.ev, AFr.get, AFr.put, List.lookup]) rfl (Kd.list_one ⟨_, rfl, hvs.step (Mv.push _ τ _)⟩)
            rfl (by unfold maxN; simp only [List.length_singleton]; omega) (fun v3 No3 τ3 ho3 hm3 => ?_) (fun q hq => by have := hD q hq; have := hm.size; simp; omega)
          simp only [sx, argsFr, Sq, SI.wanted, AFr.ev, AFr.evV, AFr.get, AFr.box, AFr.put, AFr.setb, AV.val, callee, evArgs, aBin, aUn, oneCell, cellsOf, Value.cells, evParts, evElems, evAll, fillP, zeros, RetK, resAll, resOf, tupleOf, bnd, intOf?, AFr.keep, RefT.cells, undef, Nat.reduceBEq, Nat.reduceAdd, Nat.reduceMul, Nat.reduceLeDiff, Nat.reduceEqDiff, reduceCtorEq, Int.reduceEq, Int.reduceLT, Int.reduceLE, Int.reduceAdd, Int.reduceSub]
          refine yes (by simp [rangeB, ltB, hq, ht2, hq2]) v3 No3 τ3 ho3 hm3 _ ?_
          simp only [sx, argsFr, Sq, SI.wanted, AFr.ev, AFr.evV, AFr.get, AFr.box, AFr.put, AFr.setb, AV.val, callee, evArgs, aBin, aUn, oneCell, cellsOf, Value.cells, evParts, evElems, evAll, fillP, zeros, RetK, resAll, resOf, tupleOf, bnd, intOf?, AFr.keep, RefT.cells, undef, Nat.reduceBEq, Nat.reduceAdd, Nat.reduceMul, Nat.reduceLeDiff, Nat.reduceEqDiff, reduceCtorEq, Int.reduceEq, Int.reduceLT, Int.reduceLE, Int.reduceAdd, Int.reduceSub, hw]
        | false =>
          simp only [sx, argsFr, Sq, SI.wanted, AFr.ev, AFr.evV, AFr.get, AFr.box, AFr.put, AFr.setb, AV.val, callee, evArgs, aBin, aUn, oneCell, cellsOf, Value.cells, evParts, evElems, evAll, fillP, zeros, RetK, resAll, resOf, tupleOf, bnd, intOf?, AFr.keep, RefT.cells, undef, Nat.reduceBEq, Nat.reduceAdd, Nat.reduceMul, Nat.reduceLeDiff, Nat.reduceEqDiff, reduceCtorEq, Int.reduceEq, Int.reduceLT, Int.reduceLE, Int.reduceAdd, Int.reduceSub, hi', hb, hcut, hq, ht2, hq2]
          refine no (by simp [rangeB, ltB, hq, ht2, hq2]) _ ?_
          simp only [sx, argsFr, Sq, SI.wanted, AFr.ev, AFr.evV, AFr.get, AFr.box, AFr.put, AFr.setb, AV.val, callee, evArgs, aBin, aUn, oneCell, cellsOf, Value.cells, evParts, evElems, evAll, fillP, zeros, RetK, resAll, resOf, tupleOf, bnd, intOf?, AFr.keep, RefT.cells, undef, Nat.reduceBEq, Nat.reduceAdd, Nat.reduceMul, Nat.reduceLeDiff, Nat.reduceEqDiff, reduceCtorEq, Int.reduceEq, Int.reduceLT, Int.reduceLE, Int.reduceAdd, Int.reduceSub, hw]
  · simp only [sx, argsFr, Sq, SI.wanted, AFr.ev, AFr.evV, AFr.get, AFr.box, AFr.put, AFr.setb, AV.val, callee, evArgs, aBin, aUn, oneCell, cellsOf, Value.cells, evParts, evElems, evAll, fillP, zeros, RetK, resAll, resOf, tupleOf, bnd, intOf?, AFr.keep, RefT.cells, undef, Nat.reduceBEq, Nat.reduceAdd, Nat.reduceMul, Nat.reduceLeDiff, Nat.reduceEqDiff, reduceCtorEq, Int.reduceEq, Int.reduceLT, Int.reduceLE, Int.reduceAdd, Int.reduceSub]
    have hil : i = l.length := by simp at ht; omega
    subst hil
    rw [List.take_length] at ho
    exact hR v No τ ho hm
end
end Go.Proofs.Ytbldkkabkijpgaa

namespace Go.Proofs.Ytbldkkabkijpgaa
open Go.Am

theorem secP_seen {H : List NodeT} (p : Ent → Bool) : ∀ {h u : Nat} {r : RefT} {x : NodeT} {es : List Ent}, h < u → rd H r = some x → Nd H h x es → secP p (seen H u r) = es.filter p
  | _, 0, _, _, _, hu, _, _ => by omega
  | 0, u + 1, r, x, es, hu, hr, hx => by
    have hx : _ = _ := hx
    subst hx
    rw [seen_some hr]
    simp [secP]
  | h + 1, u + 1, r, x, es, hu, hr, hx => by
    obtain ⟨ps, rfl, rfl, hk⟩ := hx
    rw [seen_some hr]
    unfold secP
    rw [List.flatMap_cons, if_neg (by simp), List.nil_append, List.flatMap_assoc, List.flatMap_map, List.filter_flatMap]
    refine flatMap_congr' fun q hq => ?_
    obtain ⟨⟨y, h1, h2, _⟩, _⟩ := hk q hq
    exact secP_seen p (by omega) h1 h2

theorem Tree.sec {H : List NodeT} {h : Nat} {r : RefT} {es : List Ent} (t : Tree H h r es) (hh : h ≤ 7) (p : Ent → Bool) : secP p (seen H 8 r) = es.filter p := by
  obtain ⟨⟨x, h1, h2, _⟩, _⟩ := t
  exact secP_seen p (by omega) h1 h2

theorem len_of_mem_flat {α β : Type} {f : α → List β} : ∀ {l : List α} {x : α}, x ∈ l → (f x).length ≤ (l.flatMap f).length
  | y :: l, x, h => by
    rw [List.flatMap_cons, List.length_append]
    rcases List.mem_cons.1 h with rfl | h
    · omega
    · have := len_of_mem_flat (f := f) h
      omega

theorem Tree.part {H : List NodeT} {h : Nat} {r : RefT} {es : List Ent} (t : Tree H h r es) (hh : h ≤ 7) : ∀ x ∈ seen H 8 r, x.node.es.length ≤ es.length := by
  intro x hx
  obtain ⟨⟨y, h1, h2, _⟩, _⟩ := t
  have := seen_es (u := 8) (by omega) h1 h2
  rw [← this]
  exact len_of_mem_flat (f := fun s : SeenT => s.node.es) hx

/-- What a row of secrets is behind the part of the loop so far. -/
def dn (x : Ent) (l : List Ent) : Bool := l.any fun y => !decide (Ltn y.name x.name)
def nx (x : Ent) (l : List Ent) : List Ent := l.filter (fun y => decide (Ltn y.name x.name)) ++ if dn x l then x :: l.filter (fun y => decide (Ltn x.name y.name)) else []

theorem dn_snoc (x y : Ent) (l : List Ent) : dn x (l ++ [y]) = (dn x l || !decide (Ltn y.name x.name)) := by simp [dn]

theorem nx_end {x : Ent} {l : List Ent} : (if dn x l then nx x l else nx x l ++ [x]) = ins x l := by
  unfold nx ins
  cases hd : dn x l with
  | true => simp
  | false =>
    have : l.filter (fun y => decide (Ltn x.name y.name)) = [] := filter_none fun y hy => by
      have h1 : ∀ y ∈ l, Ltn y.name x.name := by simpa [dn] using hd
      simpa using (h1 y hy).asymm
    simp [this]

/-- Behind the first that is not less, all are greater. -/
theorem dn_gt {x y : Ent} {l : List Ent} (hs : Srt (l ++ [y])) (hd : dn x l = true) : Ltn x.name y.name := by
  obtain ⟨z, hz, h1⟩ := List.any_eq_true.1 hd
  have h1 : ¬ Ltn z.name x.name := by simpa using h1
  have h2 : Ltn z.name y.name := (List.pairwise_append.1 hs).2.2 z hz y (by simp)
  exact Ltn.le_trans h1 h2

theorem nx_done {x y : Ent} {l : List Ent} (hs : Srt (l ++ [y])) (hd : dn x l = true) : nx x (l ++ [y]) = nx x l ++ [y] := by
  have hg := dn_gt hs hd
  unfold nx
  rw [dn_snoc, hd, List.filter_append, List.filter_append]
  simp [hg, hg.asymm]

theorem nx_less {x y : Ent} {l : List Ent} (hd : dn x l = false) (hy : Ltn y.name x.name) : nx x (l ++ [y]) = nx x l ++ [y] := by
  unfold nx
  rw [dn_snoc, hd, List.filter_append]
  simp [hy]

theorem not_dn {x : Ent} {l : List Ent} (hd : dn x l = false) : l.filter (fun y => decide (Ltn x.name y.name)) = [] := filter_none fun y hy => by
  have h1 : ∀ y ∈ l, Ltn y.name x.name := by simpa [dn] using hd
  simpa using (h1 y hy).asymm

theorem nx_same {x y : Ent} {l : List Ent} (hd : dn x l = false) (hy : y.name = x.name) : nx x (l ++ [y]) = nx x l ++ [x] := by
  unfold nx
  rw [dn_snoc, hd, List.filter_append, List.filter_append, not_dn hd, hy]
  simp [Ltn.irrefl, hy]

theorem nx_more {x y : Ent} {l : List Ent} (hd : dn x l = false) (hy : Ltn x.name y.name) : nx x (l ++ [y]) = nx x l ++ [x] ++ [y] := by
  unfold nx
  rw [dn_snoc, hd, List.filter_append, List.filter_append, not_dn hd]
  simp [hy, hy.asymm]

theorem nx_len {x : Ent} {l : List Ent} : (nx x l).length ≤ 2 * l.length + 1 := by
  unfold nx
  have h1 := List.length_filter_le (fun y : Ent => decide (Ltn y.name x.name)) l
  have h2 := List.length_filter_le (fun y : Ent => decide (Ltn x.name y.name)) l
  split <;> simp only [List.length_append, List.length_cons, List.length_nil] <;> omega

theorem mem_ins {e x : Ent} {l : List Ent} (h : e ∈ ins x l) : e = x ∨ e ∈ l := by
  unfold ins at h
  simp only [List.mem_append, List.mem_cons, List.mem_filter] at h
  grind

set_option linter.unusedSimpArgs false
section
variable {A : AProg} (hA : Prg A)
include hA

theorem c27 {D σ v} {l : List Ent} {n : Int} (h : SlR entK D σ v l) {R : Value → AHeap → Prop}
    (h0 : n < 0 ∨ (l.length : Int) ≤ n → R (.tuple #[.agg #[.string ⟨#[]⟩, .slice none 0 0], .bool false]) σ)
    (h1 : ∀ (k : Nat) e ve, n = k → l[k]? = some e → SlR verK D σ ve e.vs → R (.tuple #[.agg #[.string e.name, ve], .bool true]) σ) : C A 27 [v, .int .i64 n] σ R := by
  refine C_fn s27 (hA.at rfl) ?_
  obtain ⟨base, c, rfl⟩ := h.shape
  by_cases hn : n < 0
  · simp only [s27, sx, argsFr, Sq, SI.wanted, AFr.ev, AFr.evV, AFr.get, AFr.box, AFr.put, AFr.setb, AV.val, callee, evArgs, aBin, aUn, oneCell, cellsOf, Value.cells, evParts, evElems, evAll, fillP, zeros, RetK, resAll, resOf, tupleOf, bnd, intOf?, AFr.keep, RefT.cells, undef, Nat.reduceBEq, Nat.reduceAdd, Nat.reduceMul, Nat.reduceLeDiff, Nat.reduceEqDiff, reduceCtorEq, Int.reduceEq, Int.reduceLT, Int.reduceLE, Int.reduceAdd, Int.reduceSub, hn]
    exact h0 (.inl hn)
  · by_cases hl : n ≥ (l.length : Int)
    · simp only [s27, sx, argsFr, Sq, SI.wanted, AFr.ev, AFr.evV, AFr.get, AFr.box, AFr.put, AFr.setb, AV.val, callee, evArgs, aBin, aUn, oneCell, cellsOf, Value.cells, evParts, evElems, evAll, fillP, zeros, RetK, resAll, resOf, tupleOf, bnd, intOf?, AFr.keep, RefT.cells, undef, Nat.reduceBEq, Nat.reduceAdd, Nat.reduceMul, Nat.reduceLeDiff, Nat.reduceEqDiff, reduceCtorEq, Int.reduceEq, Int.reduceLT, Int.reduceLE, Int.reduceAdd, Int.reduceSub, hn, hl]
      exact h0 (.inr hl)
    · obtain ⟨k, rfl⟩ : ∃ k : Nat, n = k := ⟨n.toNat, by omega⟩
      have hk : k < l.length := by omega
      obtain ⟨b, off, cs, e, m, cells, rfl, hb, hcut, ve, rfl, hvs⟩ := h.atN (j := 2) rfl (List.getElem?_eq_getElem hk)
      obtain ⟨b7, c7, rfl⟩ := hvs.shape
      simp only [s27, sx, argsFr, Sq, SI.wanted, AFr.ev, AFr.evV, AFr.get, AFr.box, AFr.put, AFr.setb, AV.val, callee, evArgs, aBin, aUn, oneCell, cellsOf, Value.cells, evParts, evElems, evAll, fillP, zeros, RetK, resAll, resOf, tupleOf, bnd, intOf?, AFr.keep, RefT.cells, undef, Nat.reduceBEq, Nat.reduceAdd, Nat.reduceMul, Nat.reduceLeDiff, Nat.reduceEqDiff, reduceCtorEq, Int.reduceEq, Int.reduceLT, Int.reduceLE, Int.reduceAdd, Int.reduceSub, hn, hl, hk, hb, hcut]
      exact h1 k _ _ rfl (List.getElem?_eq_getElem hk) hvs

theorem c29 {D σ v} {l : List Ent} {name : ByteArray} (h : SlR entK D σ v l) (hl : l.length ≤ 1000) {R : Value → AHeap → Prop}
    (h0 : l.filter (floorB name) = [] → R (.tuple #[.agg #[.string ⟨#[]⟩, .slice none 0 0], .bool false]) σ)
    (h1 : ∀ e ve, (l.filter (floorB name)).getLast? = some e → SlR verK D σ ve e.vs → R (.tuple #[.agg #[.string e.name, ve], .bool true]) σ) : C A 29 [v, .string name] σ R := by
  refine C_fn s29 (hA.at rfl) ?_
  obtain ⟨base, c, rfl⟩ := h.shape
  simp only [s29, sx, argsFr, Sq, SI.wanted, AFr.ev, AFr.evV, AFr.get, AFr.box, AFr.put, AFr.setb, AV.val, callee, evArgs, aBin, aUn, oneCell, cellsOf, Value.cells, evParts, evElems, evAll, fillP, zeros, RetK, resAll, resOf, tupleOf, bnd, intOf?, AFr.keep, RefT.cells, undef, Nat.reduceBEq, Nat.reduceAdd, Nat.reduceMul, Nat.reduceLeDiff, Nat.reduceEqDiff, reduceCtorEq, Int.reduceEq, Int.reduceLT, Int.reduceLE, Int.reduceAdd, Int.reduceSub]
  refine Lp_ind (fun i => l.length - i) (fun i f τ => τ = σ ∧ i ≤ l.length ∧ ∃ (nm : ByteArray) (b8 : Option Addr) (n8 c8 : Nat) (is : Bool),
    f.keep [1, 4, 6, 7, 11, 12, 13] [4, 6] = some ⟨[(1, .v (.string name)), (4, .l 4 0), (6, .l 6 0), (7, .v (.bool is)), (11, .v (.slice base l.length c)), (12, .v (.int .i64 l.length)), (13, .v (.int .i64 i))],
      [(4, [.string ⟨#[]⟩, .slice none 0 0]), (6, [.string nm, .slice b8 n8 c8])]⟩ ∧
    (if is then ∃ e, ((l.take i).filter (floorB name)).getLast? = some e ∧ nm = e.name ∧ SlR verK D σ (.slice b8 n8 c8) e.vs else (l.take i).filter (floorB name) = [] ∧ nm = ⟨#[]⟩ ∧ b8 = none ∧ n8 = 0 ∧ c8 = 0)) ?_ 0 _ _
    ⟨rfl, Nat.zero_le _, _, _, _, _, _, rfl, by simp⟩
  rintro i f τ ⟨rfl, hi, nm, b8, n8, c8, is, hkp, hst⟩ ih
  rw [St_seq, St_keep hkp]
  clear hkp
  simp only [sx, argsFr, Sq, SI.wanted, AFr.ev, AFr.evV, AFr.get, AFr.box, AFr.put, AFr.setb, AV.val, callee, evArgs, aBin, aUn, oneCell, cellsOf, Value.cells, evParts, evElems, evAll, fillP, zeros, RetK, resAll, resOf, tupleOf, bnd, intOf?, AFr.keep, RefT.cells, undef, Nat.reduceBEq, Nat.reduceAdd, Nat.reduceMul, Nat.reduceLeDiff, Nat.reduceEqDiff, reduceCtorEq, Int.reduceEq, Int.reduceLT, Int.reduceLE, Int.reduceAdd, Int.reduceSub]
  refine Cd_split (fun ht => ?_) (fun ht => ?_)
  · have hi' : i < l.length := by simpa using ht
    have hw : IntKind.i64.wrap ((i : Int) + 1) = ((i + 1 : Nat) : Int) := wrap_up (by omega)
    obtain ⟨b, off, cs, e, m, cells, rfl, hb, hcut, ve, rfl, hvs⟩ := h.atN (j := 2) rfl (List.getElem?_eq_getElem hi')
    obtain ⟨b7, c7, rfl⟩ := hvs.shape
    simp only [sx, argsFr, Sq, SI.wanted, AFr.ev, AFr.evV, AFr.get, AFr.box, AFr.put, AFr.setb, AV.val, callee, evArgs, aBin, aUn, oneCell, cellsOf, Value.cells, evParts, evElems, evAll, fillP, zeros, RetK, resAll, resOf, tupleOf, bnd, intOf?, AFr.keep, RefT.cells, undef, Nat.reduceBEq, Nat.reduceAdd, Nat.reduceMul, Nat.reduceLeDiff, Nat.reduceEqDiff, reduceCtorEq, Int.reduceEq, Int.reduceLT, Int.reduceLE, Int.reduceAdd, Int.reduceSub, hi', hb, hcut]
    refine Cd_split (fun ht2 => ?_) (fun ht2 => ?_)
    · simp only [sx, argsFr, Sq, SI.wanted, AFr.ev, AFr.evV, AFr.get, AFr.box, AFr.put, AFr.setb, AV.val, callee, evArgs, aBin, aUn, oneCell, cellsOf, Value.cells, evParts, evElems, evAll, fillP, zeros, RetK, resAll, resOf, tupleOf, bnd, intOf?, AFr.keep, RefT.cells, undef, Nat.reduceBEq, Nat.reduceAdd, Nat.reduceMul, Nat.reduceLeDiff, Nat.reduceEqDiff, reduceCtorEq, Int.reduceEq, Int.reduceLT, Int.reduceLE, Int.reduceAdd, Int.reduceSub]
      have hq : floorB name l[i] = true := by simpa [floorB, ltB] using ht2
      refine ih (i + 1) _ _ (by omega) ⟨rfl, by omega, l[i].name, b7, l[i].vs.length, c7, true, ?_, ?_⟩
      · simp only [sx, argsFr, Sq, SI.wanted, AFr.ev, AFr.evV, AFr.get, AFr.box, AFr.put, AFr.setb, AV.val, callee, evArgs, aBin, aUn, oneCell, cellsOf, Value.cells, evParts, evElems, evAll, fillP, zeros, RetK, resAll, resOf, tupleOf, bnd, intOf?, AFr.keep, RefT.cells, undef, Nat.reduceBEq, Nat.reduceAdd, Nat.reduceMul, Nat.reduceLeDiff, Nat.reduceEqDiff, reduceCtorEq, Int.reduceEq, Int.reduceLT, Int.reduceLE, Int.reduceAdd, Int.reduceSub, hw]
      · rw [List.take_succ_eq_append_getElem hi', List.filter_append]
        simp [hq, hvs]
    · simp only [sx, argsFr, Sq, SI.wanted, AFr.ev, AFr.evV, AFr.get, AFr.box, AFr.put, AFr.setb, AV.val, callee, evArgs, aBin, aUn, oneCell, cellsOf, Value.cells, evParts, evElems, evAll, fillP, zeros, RetK, resAll, resOf, tupleOf, bnd, intOf?, AFr.keep, RefT.cells, undef, Nat.reduceBEq, Nat.reduceAdd, Nat.reduceMul, Nat.reduceLeDiff, Nat.reduceEqDiff, reduceCtorEq, Int.reduceEq, Int.reduceLT, Int.reduceLE, Int.reduceAdd, Int.reduceSub]
      have hq : floorB name l[i] = false := by simpa [floorB, ltB] using ht2
      refine ih (i + 1) _ _ (by omega) ⟨rfl, by omega, nm, b8, n8, c8, is, ?_, ?_⟩
      · simp only [sx, argsFr, Sq, SI.wanted, AFr.ev, AFr.evV, AFr.get, AFr.box, AFr.put, AFr.setb, AV.val, callee, evArgs, aBin, aUn, oneCell, cellsOf, Value.cells, evParts, evElems, evAll, fillP, zeros, RetK, resAll, resOf, tupleOf, bnd, intOf?, AFr.keep, RefT.cells, undef, Nat.reduceBEq, Nat.reduceAdd, Nat.reduceMul, Nat.reduceLeDiff, Nat.reduceEqDiff, reduceCtorEq, Int.reduceEq, Int.reduceLT, Int.reduceLE, Int.reduceAdd, Int.reduceSub, hw]
      · rw [List.take_succ_eq_append_getElem hi', List.filter_append]
        simpa [hq] using hst
  · simp only [sx, argsFr, Sq, SI.wanted, AFr.ev, AFr.evV, AFr.get, AFr.box, AFr.put, AFr.setb, AV.val, callee, evArgs, aBin, aUn, oneCell, cellsOf, Value.cells, evParts, evElems, evAll, fillP, zeros, RetK, resAll, resOf, tupleOf, bnd, intOf?, AFr.keep, RefT.cells, undef, Nat.reduceBEq, Nat.reduceAdd, Nat.reduceMul, Nat.reduceLeDiff, Nat.reduceEqDiff, reduceCtorEq, Int.reduceEq, Int.reduceLT, Int.reduceLE, Int.reduceAdd, Int.reduceSub]
    have hil : i = l.length := by simp at ht; omega
    subst hil
    rw [List.take_length] at hst
    cases is with
    | true =>
      obtain ⟨e, he, rfl, hv⟩ := hst
      exact h1 e _ he hv
    | false =>
      obtain ⟨he, rfl, rfl, rfl, rfl⟩ := hst
      exact h0 he
end
end Go.Proofs.Ytbldkkabkijpgaa

namespace Go.Proofs.Ytbldkkabkijpgaa
open Go.Am

set_option linter.unusedSimpArgs false
section
variable {A : AProg} (hA : Prg A)
include hA

theorem c23 {σ v} {l : List Ent} (hl : SlR entK [] σ v l) {R : Value → AHeap → Prop}
    (hR : ∀ H h root es N va σ', (heapStore hA σ.size).is [] N σ' H → Tree H h root es → es.length ≤ 50 → es.length ≤ l.length → (∀ e ∈ es, e ∈ l) → H.length ≤ 1001 → SlR entK N σ' va es → Mv [] σ N σ' →
      R (.tuple #[.pointer (some ⟨σ.size, 0, none⟩), .agg #[.int .u64 root.key, .int .i64 root.seg, .int .i64 root.off, .int .i64 root.len], va]) σ') : C A 23 [v] σ R := by
  refine C_fn s23 (hA.at rfl) ?_
  obtain ⟨base, c, rfl⟩ := hl.shape
  simp only [s23, sx, argsFr, Sq, SI.wanted, AFr.ev, AFr.evV, AFr.get, AFr.box, AFr.put, AFr.setb, AV.val, callee, evArgs, aBin, aUn, oneCell, cellsOf, Value.cells, evParts, evElems, evAll, fillP, zeros, RetK, resAll, resOf, tupleOf, bnd, intOf?, AFr.keep, RefT.cells, undef, Nat.reduceBEq, Nat.reduceAdd, Nat.reduceMul, Nat.reduceLeDiff, Nat.reduceEqDiff, reduceCtorEq, Int.reduceEq, Int.reduceLT, Int.reduceLE, Int.reduceAdd, Int.reduceSub]
  refine Or.inl (c13 hA (D0 := []) (by simp) (fun σ1 hh1 hm1 => ?_))
  simp only [sx, argsFr, Sq, SI.wanted, AFr.ev, AFr.evV, AFr.get, AFr.box, AFr.put, AFr.setb, AV.val, callee, evArgs, aBin, aUn, oneCell, cellsOf, Value.cells, evParts, evElems, evAll, fillP, zeros, RetK, resAll, resOf, tupleOf, bnd, intOf?, AFr.keep, RefT.cells, undef, Nat.reduceBEq, Nat.reduceAdd, Nat.reduceMul, Nat.reduceLeDiff, Nat.reduceEqDiff, reduceCtorEq, Int.reduceEq, Int.reduceLT, Int.reduceLE, Int.reduceAdd, Int.reduceSub, aEq]
  refine Or.inl (c14 hA (heapStore hA σ.size) (D0 := []) (N := [] ++ [σ.size]) (s := []) ⟨[], rfl, hh1, by simp⟩ (by simp) (fun e s' N' σ2 hw he hi hm => ?_) (fun root s' N' σ2 hw hi2 hm2 => ?_))
  · simp [heapStore] at hw
  have hw : refN 0 = root ∧ [⟨true, [], []⟩] = s' := by simpa [heapStore] using hw
  obtain ⟨rfl, rfl⟩ := hw
  simp only [sx, argsFr, Sq, SI.wanted, AFr.ev, AFr.evV, AFr.get, AFr.box, AFr.put, AFr.setb, AV.val, callee, evArgs, aBin, aUn, oneCell, cellsOf, Value.cells, evParts, evElems, evAll, fillP, zeros, RetK, resAll, resOf, tupleOf, bnd, intOf?, AFr.keep, RefT.cells, undef, Nat.reduceBEq, Nat.reduceAdd, Nat.reduceMul, Nat.reduceLeDiff, Nat.reduceEqDiff, reduceCtorEq, Int.reduceEq, Int.reduceLT, Int.reduceLE, Int.reduceAdd, Int.reduceSub]
  have hmA : Mv [] σ N' σ2 := hm1.trans hm2
  have hl2 : SlR entK N' σ2 (.slice base l.length c) l := hl.step hmA
  have t0 : Tree [(⟨true, [], []⟩ : NodeT)] 0 (refN 0) [] := ⟨⟨⟨true, [], []⟩, rfl, rfl, by simp [sizeP], .inl rfl⟩, List.Pairwise.nil⟩
  refine Lp_ind (fun i => l.length - i) (fun i f τ => ∃ H h root es N va, f.keep [3, 5, 6, 8, 30, 31, 32] [3, 6] =
      some ⟨[(3, .l 3 0), (5, .v (.pointer (some ⟨σ.size, 0, none⟩))), (6, .l 6 0), (8, .v va), (30, .v (.slice base l.length c)), (31, .v (.int .i64 l.length)), (32, .v (.int .i64 i))],
        [(3, [.int .u64 0, .int .i64 0, .int .i64 0, .int .i64 0]), (6, RefT.cells root)]⟩ ∧
    i ≤ l.length ∧ i ≤ 50 ∧ (heapStore hA σ.size).is [] N τ H ∧ Tree H h root es ∧ es.length ≤ i ∧ (∀ e ∈ es, e ∈ l) ∧ H.length ≤ 1 + 20 * i ∧ SlR entK N τ va es ∧ Mv N' σ2 N τ) ?_ 0 _ _
    ⟨_, 0, refN 0, [], N', _, rfl, Nat.zero_le _, Nat.zero_le _, hi2, t0, Nat.le_refl _, by simp, by simp, .nil, Mv.refl _ _⟩
  rintro i f τ ⟨H, h, root, es, N, va, hkp, hi, hi50, his, ht, hes, hin, hH, hva, hm⟩ ih
  rw [St_seq, St_keep hkp]
  clear hkp
  have hlτ : SlR entK N τ (.slice base l.length c) l := hl2.step hm
  obtain ⟨ba, ca, rfl⟩ := hva.shape
  simp only [sx, argsFr, Sq, SI.wanted, AFr.ev, AFr.evV, AFr.get, AFr.box, AFr.put, AFr.setb, AV.val, callee, evArgs, aBin, aUn, oneCell, cellsOf, Value.cells, evParts, evElems, evAll, fillP, zeros, RetK, resAll, resOf, tupleOf, bnd, intOf?, AFr.keep, RefT.cells, undef, Nat.reduceBEq, Nat.reduceAdd, Nat.reduceMul, Nat.reduceLeDiff, Nat.reduceEqDiff, reduceCtorEq, Int.reduceEq, Int.reduceLT, Int.reduceLE, Int.reduceAdd, Int.reduceSub]
  refine Cd_split (fun hc => ?_) (fun hc => ?_)
  · have hi' : i < l.length := by simpa using hc
    have hw : IntKind.i64.wrap ((i : Int) + 1) = ((i + 1 : Nat) : Int) := wrap_up (by omega)
    obtain ⟨b, off, cs2, e2, m2, cells, rfl, hb, hcut, y, hy, hys⟩ := hlτ.atN (j := 2) rfl (List.getElem?_eq_getElem hi')
    subst hy
    obtain ⟨b6, c6, rfl⟩ := hys.shape
    by_cases h50 : 50 ≤ i
    · have q0 : (i : Int) ≥ 50 := by omega
      simp only [sx, argsFr, Sq, SI.wanted, AFr.ev, AFr.evV, AFr.get, AFr.box, AFr.put, AFr.setb, AV.val, callee, evArgs, aBin, aUn, oneCell, cellsOf, Value.cells, evParts, evElems, evAll, fillP, zeros, RetK, resAll, resOf, tupleOf, bnd, intOf?, AFr.keep, RefT.cells, undef, Nat.reduceBEq, Nat.reduceAdd, Nat.reduceMul, Nat.reduceLeDiff, Nat.reduceEqDiff, reduceCtorEq, Int.reduceEq, Int.reduceLT, Int.reduceLE, Int.reduceAdd, Int.reduceSub, hb, hi', hcut, q0]
      exact hR H h root es N _ τ his ht (by omega) (by omega) hin (by omega) hva (hmA.trans hm)
    have q0 : ¬ (i : Int) ≥ 50 := by omega
    simp only [sx, argsFr, Sq, SI.wanted, AFr.ev, AFr.evV, AFr.get, AFr.box, AFr.put, AFr.setb, AV.val, callee, evArgs, aBin, aUn, oneCell, cellsOf, Value.cells, evParts, evElems, evAll, fillP, zeros, RetK, resAll, resOf, tupleOf, bnd, intOf?, AFr.keep, RefT.cells, undef, Nat.reduceBEq, Nat.reduceAdd, Nat.reduceMul, Nat.reduceLeDiff, Nat.reduceEqDiff, reduceCtorEq, Int.reduceEq, Int.reduceLT, Int.reduceLE, Int.reduceAdd, Int.reduceSub, hb, hi', hcut, q0]
    have hN : ∀ q ∈ N, q < τ.size := fun q hq => (heapStore hA σ.size).lt his q hq
    have hh6 := ht.low_height (by omega)
    obtain ⟨to, X, h', hput, ht', hX, hh1, hh2⟩ := putT_ok hA σ.size l[i] ht (by omega) (by omega)
    have hil := (ins_len l[i] es ht.srt).2
    refine Or.inl (c16 hA (heapStore hA σ.size) (D0 := []) (e := l[i]) his (by simpa using hys) (by simp) hput (fun N2 τ2 hi2 hm2 => ?_))
    simp only [sx, argsFr, Sq, SI.wanted, AFr.ev, AFr.evV, AFr.get, AFr.box, AFr.put, AFr.setb, AV.val, callee, evArgs, aBin, aUn, oneCell, cellsOf, Value.cells, evParts, evElems, evAll, fillP, zeros, RetK, resAll, resOf, tupleOf, bnd, intOf?, AFr.keep, RefT.cells, undef, Nat.reduceBEq, Nat.reduceAdd, Nat.reduceMul, Nat.reduceLeDiff, Nat.reduceEqDiff, reduceCtorEq, Int.reduceEq, Int.reduceLT, Int.reduceLE, Int.reduceAdd, Int.reduceSub]
    have hva2 : SlR entK N2 τ2 _ es := hva.step hm2
    have hys2 : SlR verK N2 τ2 _ l[i].vs := hys.step hm2
    have hN2 : ∀ q ∈ N2, q < τ2.size := fun q hq => (heapStore hA σ.size).lt hi2 q hq
    generalize hx : l[i] = x at *
    have fin : ∀ (f : AFr) v3 No3 τ3, Own entK N2 τ3 No3 v3 (ins x es) → Mv [] τ2 No3 τ3 →
        f.keep [3, 5, 6, 8, 30, 31, 32] [3, 6] = some ⟨[(3, .l 3 0), (5, .v (.pointer (some ⟨σ.size, 0, none⟩))), (6, .l 6 0), (8, .v v3), (30, .v (.slice (some ⟨b, off, none⟩) l.length c)), (31, .v (.int .i64 l.length)), (32, .v (.int .i64 (i + 1 : Nat)))],
          [(3, [.int .u64 0, .int .i64 0, .int .i64 0, .int .i64 0]), (6, RefT.cells to)]⟩ → Lp A _ _ _ f τ3 := fun f v3 No3 τ3 ho3 hm3 hf =>
      ih (i + 1) f τ3 (by omega) ⟨H ++ X, h', to, ins x es, N2, v3, hf, by omega, by omega, (heapStore hA σ.size).step hi2 hm3.drop, ht', by omega,
        fun e he => (mem_ins he).elim (fun h => by rw [h, ← hx]; exact List.getElem_mem _) (hin e), by rw [List.length_append]; omega, ho3.sl, (hm.trans hm2).trans (hm3.any N2)⟩
    clear ih
    refine Lp_ind (fun j => es.length - j) (fun j f τ => ∃ v No, f.keep [3, 5, 6, 10, 13, 14, 30, 31, 32, 51, 52, 53] [3, 6, 10] =
      some ⟨[(3, .l 3 0), (5, .v (.pointer (some ⟨σ.size, 0, none⟩))), (6, .l 6 0), (10, .l 10 0), (13, .v v), (14, .v (.bool (dn x (es.take j)))), (30, .v (.slice (some ⟨b, off, none⟩) l.length c)), (31, .v (.int .i64 l.length)), (32, .v (.int .i64 i)),
          (51, .v (.slice ba es.length ca)), (52, .v (.int .i64 es.length)), (53, .v (.int .i64 j))],
        [(3, [.int .u64 0, .int .i64 0, .int .i64 0, .int .i64 0]), (6, RefT.cells to), (10, [.string x.name, .slice b6 x.vs.length c6])]⟩ ∧
      j ≤ es.length ∧ Own entK N2 τ No v (nx x (es.take j)) ∧ Mv [] τ2 No τ) ?_ 0 _ _ ⟨_, [], rfl, Nat.zero_le _, .nil, Mv.refl _ _⟩
    rintro j f τ3 ⟨v, No, hkp, hj, ho, hm3⟩ ih
    rw [St_seq, St_keep hkp]
    clear hkp
    have hva3 : SlR entK (No ++ N2) τ3 _ es := hva2.step (hm3.mono (by simp) (by simp))
    have hys3 : SlR verK (No ++ N2) τ3 _ x.vs := hys2.step (hm3.mono (by simp) (by simp))
    have hD3 : ∀ q ∈ N2, q < τ3.size := fun q hq => Nat.lt_of_lt_of_le (hN2 q hq) hm3.size
    have hln := nx_len (x := x) (l := es.take j)
    have hlt : (es.take j).length ≤ 50 := by simp; omega
    obtain ⟨bv, cv, hvs⟩ := ho.sl.shape
    subst hvs
    simp only [sx, argsFr, Sq, SI.wanted, AFr.ev, AFr.evV, AFr.get, AFr.box, AFr.put, AFr.setb, AV.val, callee, evArgs, aBin, aUn, oneCell, cellsOf, Value.cells, evParts, evElems, evAll, fillP, zeros, RetK, resAll, resOf, tupleOf, bnd, intOf?, AFr.keep, RefT.cells, undef, Nat.reduceBEq, Nat.reduceAdd, Nat.reduceMul, Nat.reduceLeDiff, Nat.reduceEqDiff, reduceCtorEq, Int.reduceEq, Int.reduceLT, Int.reduceLE, Int.reduceAdd, Int.reduceSub]
    refine Cd_split (fun hc => ?_) (fun hc => ?_)
    · have hj' : j < es.length := by simpa using hc
      have hw3 : IntKind.i64.wrap ((j : Int) + 1) = ((j + 1 : Nat) : Int) := wrap_up (by omega)
      obtain ⟨b3, off3, cs3, e3, m3, cells3, rfl, hb3, hcut3, ve3, rfl, hvs3⟩ := hva3.atN (j := 2) rfl (List.getElem?_eq_getElem hj')
      obtain ⟨b7, c7, rfl⟩ := hvs3.shape
      have htk : es.take (j + 1) = es.take j ++ [es[j]] := List.take_succ_eq_append_getElem hj'
      have hs1 : Srt (es.take j ++ [es[j]]) := by rw [← htk]; exact List.Pairwise.sublist (List.take_sublist _ _) ht.srt
      have next : ∀ (f : AFr) v4 No4 τ4, Own entK N2 τ4 No4 v4 (nx x (es.take (j + 1))) → Mv [] τ2 No4 τ4 →
          f.keep [3, 5, 6, 10, 13, 14, 30, 31, 32, 51, 52, 53] [3, 6, 10] =
        some ⟨[(3, .l 3 0), (5, .v (.pointer (some ⟨σ.size, 0, none⟩))), (6, .l 6 0), (10, .l 10 0), (13, .v v4), (14, .v (.bool (dn x (es.take (j + 1))))), (30, .v (.slice (some ⟨b, off, none⟩) l.length c)), (31, .v (.int .i64 l.length)), (32, .v (.int .i64 i)),
          (51, .v (.slice (some ⟨b3, off3, none⟩) es.length ca)), (52, .v (.int .i64 es.length)), (53, .v (.int .i64 (j + 1 : Nat)))],
        [(3, [.int .u64 0, .int .i64 0, .int .i64 0, .int .i64 0]), (6, RefT.cells to), (10, [.string x.name, .slice b6 x.vs.length c6])]⟩ → Lp A _ _ _ f τ4 := fun f v4 No4 τ4 ho4 hm4 hf =>
        ih (j + 1) f τ4 (by omega) ⟨v4, No4, hf, by omega, ho4, hm4⟩
      clear ih
      rw [htk, dn_snoc] at next
      generalize hd : dn x (es.take j) = d at *
      cases d with
      | true =>
        have hg := dn_gt hs1 hd
        rw [nx_done hs1 hd, Bool.true_or] at next
        have hne : es[j].name ≠ x.name := hg.ne.symm
        simp only [sx, argsFr, Sq, SI.wanted, AFr.ev, AFr.evV, AFr.get, AFr.box, AFr.put, AFr.setb, AV.val, callee, evArgs, aBin, aUn, oneCell, cellsOf, Value.cells, evParts, evElems, evAll, fillP, zeros, RetK, resAll, resOf, tupleOf, bnd, intOf?, AFr.keep, RefT.cells, undef, Nat.reduceBEq, Nat.reduceAdd, Nat.reduceMul, Nat.reduceLeDiff, Nat.reduceEqDiff, reduceCtorEq, Int.reduceEq, Int.reduceLT, Int.reduceLE, Int.reduceAdd, Int.reduceSub, hj', hb3, hcut3, hne]
        refine Sr_app (K := entK) (D := N2) (N := No) (ys := [es[j]]) (new := [.string es[j].name, .slice b7 es[j].vs.length c7])
          (by simp only [sx, argsFr, Sq, SI.wanted, AFr.ev, AFr.evV, AFr.get, AFr.box, AFr.put, AFr.setb, AV.val, callee, evArgs, aBin, aUn, oneCell, cellsOf, Value.cells, evParts, evElems, evAll, fillP, zeros, RetK, resAll, resOf, tupleOf, bnd, intOf?, AFr.keep, RefT.cells, undef, Nat.reduceBEq, Nat.reduceAdd, Nat.reduceMul, Nat.reduceLeDiff, Nat.reduceEqDiff, reduceCtorEq, Int.reduceEq, Int.reduceLT, Int.reduceLE, Int.reduceAdd, Int.reduceSub]) (ho.step (Mv.push _ τ3 _)) rfl (by decide) (by simp [srcOf, AFr.ev, AFr.get, AFr.put, List.lookup]) rfl (Kd.list_one ⟨_, rfl, hvs3.step (Mv.push _ τ3 _)⟩)
          rfl (by unfold maxN; simp only [List.length_singleton]; omega) (fun v4 No4 τ4 ho4 hm4 => ?_) (fun q hq => by have := hD3 q hq; simp; omega)
        simp only [sx, argsFr, Sq, SI.wanted, AFr.ev, AFr.evV, AFr.get, AFr.box, AFr.put, AFr.setb, AV.val, callee, evArgs, aBin, aUn, oneCell, cellsOf, Value.cells, evParts, evElems, evAll, fillP, zeros, RetK, resAll, resOf, tupleOf, bnd, intOf?, AFr.keep, RefT.cells, undef, Nat.reduceBEq, Nat.reduceAdd, Nat.reduceMul, Nat.reduceLeDiff, Nat.reduceEqDiff, reduceCtorEq, Int.reduceEq, Int.reduceLT, Int.reduceLE, Int.reduceAdd, Int.reduceSub]
        refine next _ v4 No4 τ4 ho4 (hm3.trans ((Mv.push No τ3 _).trans hm4)) ?_
        simp only [sx, argsFr, Sq, SI.wanted, AFr.ev, AFr.evV, AFr.get, AFr.box, AFr.put, AFr.setb, AV.val, callee, evArgs, aBin, aUn, oneCell, cellsOf, Value.cells, evParts, evElems, evAll, fillP, zeros, RetK, resAll, resOf, tupleOf, bnd, intOf?, AFr.keep, RefT.cells, undef, Nat.reduceBEq, Nat.reduceAdd, Nat.reduceMul, Nat.reduceLeDiff, Nat.reduceEqDiff, reduceCtorEq, Int.reduceEq, Int.reduceLT, Int.reduceLE, Int.reduceAdd, Int.reduceSub, hw3]
      | false =>
        rw [Bool.false_or] at next
        by_cases hq : Ltn es[j].name x.name
        · have hq2 : Op.bytesLess es[j].name.toList x.name.toList = true := hq
          have hne : es[j].name ≠ x.name := hq.ne
          rw [nx_less hd hq, decide_eq_true hq, Bool.not_true] at next
          simp only [sx, argsFr, Sq, SI.wanted, AFr.ev, AFr.evV, AFr.get, AFr.box, AFr.put, AFr.setb, AV.val, callee, evArgs, aBin, aUn, oneCell, cellsOf, Value.cells, evParts, evElems, evAll, fillP, zeros, RetK, resAll, resOf, tupleOf, bnd, intOf?, AFr.keep, RefT.cells, undef, Nat.reduceBEq, Nat.reduceAdd, Nat.reduceMul, Nat.reduceLeDiff, Nat.reduceEqDiff, reduceCtorEq, Int.reduceEq, Int.reduceLT, Int.reduceLE, Int.reduceAdd, Int.reduceSub, hj', hb3, hcut3, hne, hq2]
          refine Sr_app (K := entK) (D := N2) (N := No) (ys := [es[j]]) (new := [.string es[j].name, .slice b7 es[j].vs.length c7])
            (by simp only [sx, argsFr, Sq, SI.wanted, AFr.ev, AFr.evV, AFr.get, AFr.box, AFr.put, AFr.setb, AV.val, callee, evArgs, aBin, aUn, oneCell, cellsOf, Value.cells, evParts, evElems, evAll, fillP, zeros, RetK, resAll, resOf, tupleOf, bnd, intOf?, AFr.keep, RefT.cells, undef, Nat.reduceBEq, Nat.reduceAdd, Nat.reduceMul, Nat.reduceLeDiff, Nat.reduceEqDiff, reduceCtorEq, Int.reduceEq, Int.reduceLT, Int.reduceLE, Int.reduceAdd, Int.reduceSub]) (ho.step (Mv.push _ τ3 _)) rfl (by decide) (by simp [srcOf, AFr.ev, AFr.get, AFr.put, List.lookup]) rfl (Kd.list_one ⟨_, rfl, hvs3.step (Mv.push _ τ3 _)⟩)
            rfl (by unfold maxN; simp only [List.length_singleton]; omega) (fun v4 No4 τ4 ho4 hm4 => ?_) (fun q hq => by have := hD3 q hq; simp; omega)
          simp only [sx, argsFr, Sq, SI.wanted, AFr.ev, AFr.evV, AFr.get, AFr.box, AFr.put, AFr.setb, AV.val, callee, evArgs, aBin, aUn, oneCell, cellsOf, Value.cells, evParts, evElems, evAll, fillP, zeros, RetK, resAll, resOf, tupleOf, bnd, intOf?, AFr.keep, RefT.cells, undef, Nat.reduceBEq, Nat.reduceAdd, Nat.reduceMul, Nat.reduceLeDiff, Nat.reduceEqDiff, reduceCtorEq, Int.reduceEq, Int.reduceLT, Int.reduceLE, Int.reduceAdd, Int.reduceSub]
          refine next _ v4 No4 τ4 ho4 (hm3.trans ((Mv.push No τ3 _).trans hm4)) ?_
          simp only [sx, argsFr, Sq, SI.wanted, AFr.ev, AFr.evV, AFr.get, AFr.box, AFr.put, AFr.setb, AV.val, callee, evArgs, aBin, aUn, oneCell, cellsOf, Value.cells, evParts, evElems, evAll, fillP, zeros, RetK, resAll, resOf, tupleOf, bnd, intOf?, AFr.keep, RefT.cells, undef, Nat.reduceBEq, Nat.reduceAdd, Nat.reduceMul, Nat.reduceLeDiff, Nat.reduceEqDiff, reduceCtorEq, Int.reduceEq, Int.reduceLT, Int.reduceLE, Int.reduceAdd, Int.reduceSub, hw3]
        · have hq2 : Op.bytesLess es[j].name.toList x.name.toList = false := by simpa [Ltn, ltB] using hq
          rw [decide_eq_false hq, Bool.not_false] at next
          by_cases hne : es[j].name = x.name
          · rw [nx_same hd hne] at next
            simp only [sx, argsFr, Sq, SI.wanted, AFr.ev, AFr.evV, AFr.get, AFr.box, AFr.put, AFr.setb, AV.val, callee, evArgs, aBin, aUn, oneCell, cellsOf, Value.cells, evParts, evElems, evAll, fillP, zeros, RetK, resAll, resOf, tupleOf, bnd, intOf?, AFr.keep, RefT.cells, undef, Nat.reduceBEq, Nat.reduceAdd, Nat.reduceMul, Nat.reduceLeDiff, Nat.reduceEqDiff, reduceCtorEq, Int.reduceEq, Int.reduceLT, Int.reduceLE, Int.reduceAdd, Int.reduceSub, hj', hb3, hcut3, hq2]
            refine Sr_app (K := entK) (D := N2) (N := No) (ys := [x]) (new := [.string x.name, .slice b6 x.vs.length c6])
              (by simp only [sx, argsFr, Sq, SI.wanted, AFr.ev, AFr.evV, AFr.get, AFr.box, AFr.put, AFr.setb, AV.val, callee, evArgs, aBin, aUn, oneCell, cellsOf, Value.cells, evParts, evElems, evAll, fillP, zeros, RetK, resAll, resOf, tupleOf, bnd, intOf?, AFr.keep, RefT.cells, undef, Nat.reduceBEq, Nat.reduceAdd, Nat.reduceMul, Nat.reduceLeDiff, Nat.reduceEqDiff, reduceCtorEq, Int.reduceEq, Int.reduceLT, Int.reduceLE, Int.reduceAdd, Int.reduceSub]) (ho.step (Mv.push _ τ3 _)) rfl (by decide) (by simp [srcOf, AFr.ev, AFr.get, AFr.put, List.lookup]) rfl (Kd.list_one ⟨_, rfl, hys3.step (Mv.push _ τ3 _)⟩)
              rfl (by unfold maxN; simp only [List.length_singleton]; omega) (fun v4 No4 τ4 ho4 hm4 => ?_) (fun q hq => by have := hD3 q hq; simp; omega)
            simp only [sx, argsFr, Sq, SI.wanted, AFr.ev, AFr.evV, AFr.get, AFr.box, AFr.put, AFr.setb, AV.val, callee, evArgs, aBin, aUn, oneCell, cellsOf, Value.cells, evParts, evElems, evAll, fillP, zeros, RetK, resAll, resOf, tupleOf, bnd, intOf?, AFr.keep, RefT.cells, undef, Nat.reduceBEq, Nat.reduceAdd, Nat.reduceMul, Nat.reduceLeDiff, Nat.reduceEqDiff, reduceCtorEq, Int.reduceEq, Int.reduceLT, Int.reduceLE, Int.reduceAdd, Int.reduceSub, hj', hb3, hcut3, hne]
            refine next _ v4 No4 τ4 ho4 (hm3.trans ((Mv.push No τ3 _).trans hm4)) ?_
            simp only [sx, argsFr, Sq, SI.wanted, AFr.ev, AFr.evV, AFr.get, AFr.box, AFr.put, AFr.setb, AV.val, callee, evArgs, aBin, aUn, oneCell, cellsOf, Value.cells, evParts, evElems, evAll, fillP, zeros, RetK, resAll, resOf, tupleOf, bnd, intOf?, AFr.keep, RefT.cells, undef, Nat.reduceBEq, Nat.reduceAdd, Nat.reduceMul, Nat.reduceLeDiff, Nat.reduceEqDiff, reduceCtorEq, Int.reduceEq, Int.reduceLT, Int.reduceLE, Int.reduceAdd, Int.reduceSub, hw3]
          · have hgt : Ltn x.name es[j].name := (Ltn.total es[j].name x.name).elim (fun h => absurd h hq) fun h => h.elim (fun h => absurd h hne) id
            rw [nx_more hd hgt] at next
            simp only [sx, argsFr, Sq, SI.wanted, AFr.ev, AFr.evV, AFr.get, AFr.box, AFr.put, AFr.setb, AV.val, callee, evArgs, aBin, aUn, oneCell, cellsOf, Value.cells, evParts, evElems, evAll, fillP, zeros, RetK, resAll, resOf, tupleOf, bnd, intOf?, AFr.keep, RefT.cells, undef, Nat.reduceBEq, Nat.reduceAdd, Nat.reduceMul, Nat.reduceLeDiff, Nat.reduceEqDiff, reduceCtorEq, Int.reduceEq, Int.reduceLT, Int.reduceLE, Int.reduceAdd, Int.reduceSub, hj', hb3, hcut3, hq2]
            refine Sr_app (K := entK) (D := N2) (N := No) (ys := [x]) (new := [.string x.name, .slice b6 x.vs.length c6])
              (by simp only [sx, argsFr, Sq, SI.wanted, AFr.ev, AFr.evV, AFr.get, AFr.box, AFr.put, AFr.setb, AV.val, callee, evArgs, aBin, aUn, oneCell, cellsOf, Value.cells, evParts, evElems, evAll, fillP, zeros, RetK, resAll, resOf, tupleOf, bnd, intOf?, AFr.keep, RefT.cells, undef, Nat.reduceBEq, Nat.reduceAdd, Nat.reduceMul, Nat.reduceLeDiff, Nat.reduceEqDiff, reduceCtorEq, Int.reduceEq, Int.reduceLT, Int.reduceLE, Int.reduceAdd, Int.reduceSub]) (ho.step (Mv.push _ τ3 _)) rfl (by decide) (by simp [srcOf, AFr.ev, AFr.get, AFr.put, List.lookup]) rfl (Kd.list_one ⟨_, rfl, hys3.step (Mv.push _ τ3 _)⟩)
              rfl (by unfold maxN; simp only [List.length_singleton]; omega) (fun v4 No4 τ4 ho4 hm4 => ?_) (fun q hq => by have := hD3 q hq; simp; omega)
            obtain ⟨bw, cw, hvw⟩ := ho4.sl.shape
            subst hvw
            have hm4' := (hm3.trans ((Mv.push No τ3 _).trans hm4))
            have hvs4 : SlR verK (No4 ++ N2) τ4 _ es[j].vs := hvs3.step (((Mv.push No τ3 _).trans hm4).post N2)
            simp only [sx, argsFr, Sq, SI.wanted, AFr.ev, AFr.evV, AFr.get, AFr.box, AFr.put, AFr.setb, AV.val, callee, evArgs, aBin, aUn, oneCell, cellsOf, Value.cells, evParts, evElems, evAll, fillP, zeros, RetK, resAll, resOf, tupleOf, bnd, intOf?, AFr.keep, RefT.cells, undef, Nat.reduceBEq, Nat.reduceAdd, Nat.reduceMul, Nat.reduceLeDiff, Nat.reduceEqDiff, reduceCtorEq, Int.reduceEq, Int.reduceLT, Int.reduceLE, Int.reduceAdd, Int.reduceSub, hj', hne]
            refine Sr_app (K := entK) (D := N2) (N := No4) (ys := [es[j]]) (new := [.string es[j].name, .slice b7 es[j].vs.length c7])
              (by simp only [sx, argsFr, Sq, SI.wanted, AFr.ev, AFr.evV, AFr.get, AFr.box, AFr.put, AFr.setb, AV.val, callee, evArgs, aBin, aUn, oneCell, cellsOf, Value.cells, evParts, evElems, evAll, fillP, zeros, RetK, resAll, resOf, tupleOf, bnd, intOf?, AFr.keep, RefT.cells, undef, Nat.reduceBEq, Nat.reduceAdd, Nat.reduceMul, Nat.reduceLeDiff, Nat.reduceEqDiff, reduceCtorEq, Int.reduceEq, Int.reduceLT, Int.reduceLE, Int.reduceAdd, Int.reduceSub]) (ho4.step (Mv.push _ τ4 _)) rfl (by decide) (by simp [srcOf, AFr.ev, AFr.get, AFr.put, List.lookup]) rfl (Kd.list_one ⟨_, rfl, hvs4.step (Mv.push _ τ4 _)⟩)
              rfl (by unfold maxN; simp only [List.length_singleton, List.length_append]; omega) (fun v5 No5 τ5 ho5 hm5 => ?_) (fun q hq => by have := hD3 q hq; have := hm4.size; simp at this; simp; omega)
            simp only [sx, argsFr, Sq, SI.wanted, AFr.ev, AFr.evV, AFr.get, AFr.box, AFr.put, AFr.setb, AV.val, callee, evArgs, aBin, aUn, oneCell, cellsOf, Value.cells, evParts, evElems, evAll, fillP, zeros, RetK, resAll, resOf, tupleOf, bnd, intOf?, AFr.keep, RefT.cells, undef, Nat.reduceBEq, Nat.reduceAdd, Nat.reduceMul, Nat.reduceLeDiff, Nat.reduceEqDiff, reduceCtorEq, Int.reduceEq, Int.reduceLT, Int.reduceLE, Int.reduceAdd, Int.reduceSub]
            refine next _ v5 No5 τ5 ho5 (hm4'.trans ((Mv.push No4 τ4 _).trans hm5)) ?_
            simp only [sx, argsFr, Sq, SI.wanted, AFr.ev, AFr.evV, AFr.get, AFr.box, AFr.put, AFr.setb, AV.val, callee, evArgs, aBin, aUn, oneCell, cellsOf, Value.cells, evParts, evElems, evAll, fillP, zeros, RetK, resAll, resOf, tupleOf, bnd, intOf?, AFr.keep, RefT.cells, undef, Nat.reduceBEq, Nat.reduceAdd, Nat.reduceMul, Nat.reduceLeDiff, Nat.reduceEqDiff, reduceCtorEq, Int.reduceEq, Int.reduceLT, Int.reduceLE, Int.reduceAdd, Int.reduceSub, hw3]
    · simp only [sx, argsFr, Sq, SI.wanted, AFr.ev, AFr.evV, AFr.get, AFr.box, AFr.put, AFr.setb, AV.val, callee, evArgs, aBin, aUn, oneCell, cellsOf, Value.cells, evParts, evElems, evAll, fillP, zeros, RetK, resAll, resOf, tupleOf, bnd, intOf?, AFr.keep, RefT.cells, undef, Nat.reduceBEq, Nat.reduceAdd, Nat.reduceMul, Nat.reduceLeDiff, Nat.reduceEqDiff, reduceCtorEq, Int.reduceEq, Int.reduceLT, Int.reduceLE, Int.reduceAdd, Int.reduceSub]
      have hjl : j = es.length := by simp at hc; omega
      subst hjl
      rw [List.take_length] at ho hln ⊢
      have he := nx_end (x := x) (l := es)
      cases hd : dn x es with
      | true =>
        simp only [hd, if_true] at he
        rw [he] at ho ⊢
        simp only [sx, argsFr, Sq, SI.wanted, AFr.ev, AFr.evV, AFr.get, AFr.box, AFr.put, AFr.setb, AV.val, callee, evArgs, aBin, aUn, oneCell, cellsOf, Value.cells, evParts, evElems, evAll, fillP, zeros, RetK, resAll, resOf, tupleOf, bnd, intOf?, AFr.keep, RefT.cells, undef, Nat.reduceBEq, Nat.reduceAdd, Nat.reduceMul, Nat.reduceLeDiff, Nat.reduceEqDiff, reduceCtorEq, Int.reduceEq, Int.reduceLT, Int.reduceLE, Int.reduceAdd, Int.reduceSub]
        refine fin _ _ No τ3 ho hm3 ?_
        simp only [sx, argsFr, Sq, SI.wanted, AFr.ev, AFr.evV, AFr.get, AFr.box, AFr.put, AFr.setb, AV.val, callee, evArgs, aBin, aUn, oneCell, cellsOf, Value.cells, evParts, evElems, evAll, fillP, zeros, RetK, resAll, resOf, tupleOf, bnd, intOf?, AFr.keep, RefT.cells, undef, Nat.reduceBEq, Nat.reduceAdd, Nat.reduceMul, Nat.reduceLeDiff, Nat.reduceEqDiff, reduceCtorEq, Int.reduceEq, Int.reduceLT, Int.reduceLE, Int.reduceAdd, Int.reduceSub, hw]
      | false =>
        simp only [hd, Bool.false_eq_true, if_false] at he
        simp only [sx, argsFr, Sq, SI.wanted, AFr.ev, AFr.evV, AFr.get, AFr.box, AFr.put, AFr.setb, AV.val, callee, evArgs, aBin, aUn, oneCell, cellsOf, Value.cells, evParts, evElems, evAll, fillP, zeros, RetK, resAll, resOf, tupleOf, bnd, intOf?, AFr.keep, RefT.cells, undef, Nat.reduceBEq, Nat.reduceAdd, Nat.reduceMul, Nat.reduceLeDiff, Nat.reduceEqDiff, reduceCtorEq, Int.reduceEq, Int.reduceLT, Int.reduceLE, Int.reduceAdd, Int.reduceSub]
        refine Sr_app (K := entK) (D := N2) (N := No) (ys := [x]) (new := [.string x.name, .slice b6 x.vs.length c6])
          (by simp only [sx, argsFr, Sq, SI.wanted, AFr.ev, AFr.evV, AFr.get, AFr.box, AFr.put, AFr.setb, AV.val, callee, evArgs, aBin, aUn, oneCell, cellsOf, Value.cells, evParts, evElems, evAll, fillP, zeros, RetK, resAll, resOf, tupleOf, bnd, intOf?, AFr.keep, RefT.cells, undef, Nat.reduceBEq, Nat.reduceAdd, Nat.reduceMul, Nat.reduceLeDiff, Nat.reduceEqDiff, reduceCtorEq, Int.reduceEq, Int.reduceLT, Int.reduceLE, Int.reduceAdd, Int.reduceSub]) (ho.step (Mv.push _ τ3 _)) rfl (by decide) (by simp [srcOf, AFr.ev, AFr.get, AFr.put, List.lookup]) rfl (Kd.list_one ⟨_, rfl, hys3.step (Mv.push _ τ3 _)⟩)
          rfl (by unfold maxN; simp only [List.length_singleton]; omega) (fun v4 No4 τ4 ho4 hm4 => ?_) (fun q hq => by have := hD3 q hq; simp; omega)
        rw [he] at ho4
        simp only [sx, argsFr, Sq, SI.wanted, AFr.ev, AFr.evV, AFr.get, AFr.box, AFr.put, AFr.setb, AV.val, callee, evArgs, aBin, aUn, oneCell, cellsOf, Value.cells, evParts, evElems, evAll, fillP, zeros, RetK, resAll, resOf, tupleOf, bnd, intOf?, AFr.keep, RefT.cells, undef, Nat.reduceBEq, Nat.reduceAdd, Nat.reduceMul, Nat.reduceLeDiff, Nat.reduceEqDiff, reduceCtorEq, Int.reduceEq, Int.reduceLT, Int.reduceLE, Int.reduceAdd, Int.reduceSub]
        refine fin _ v4 No4 τ4 ho4 (hm3.trans ((Mv.push No τ3 _).trans hm4)) ?_
        simp only [sx, argsFr, Sq, SI.wanted, AFr.ev, AFr.evV, AFr.get, AFr.box, AFr.put, AFr.setb, AV.val, callee, evArgs, aBin, aUn, oneCell, cellsOf, Value.cells, evParts, evElems, evAll, fillP, zeros, RetK, resAll, resOf, tupleOf, bnd, intOf?, AFr.keep, RefT.cells, undef, Nat.reduceBEq, Nat.reduceAdd, Nat.reduceMul, Nat.reduceLeDiff, Nat.reduceEqDiff, reduceCtorEq, Int.reduceEq, Int.reduceLT, Int.reduceLE, Int.reduceAdd, Int.reduceSub, hw]
  · simp only [sx, argsFr, Sq, SI.wanted, AFr.ev, AFr.evV, AFr.get, AFr.box, AFr.put, AFr.setb, AV.val, callee, evArgs, aBin, aUn, oneCell, cellsOf, Value.cells, evParts, evElems, evAll, fillP, zeros, RetK, resAll, resOf, tupleOf, bnd, intOf?, AFr.keep, RefT.cells, undef, Nat.reduceBEq, Nat.reduceAdd, Nat.reduceMul, Nat.reduceLeDiff, Nat.reduceEqDiff, reduceCtorEq, Int.reduceEq, Int.reduceLT, Int.reduceLE, Int.reduceAdd, Int.reduceSub]
    have hil : i = l.length := by simp at hc; omega
    exact hR H h root es N _ τ his ht (by omega) (by omega) hin (by omega) hva (hmA.trans hm)
end
end Go.Proofs.Ytbldkkabkijpgaa

namespace Go.Proofs.Ytbldkkabkijpgaa
open Go.Am

theorem range_all : ∀ l : List Ent, l.filter (rangeB ⟨#[]⟩ ⟨#[]⟩) = l := fun l => filter_all fun x _ => by
  have : ltB x.name ⟨#[]⟩ = false := by
    unfold ltB
    rw [show (⟨#[]⟩ : ByteArray).toList = [] by rw [ByteArray.toList_eq]]
    cases x.name.toList <;> rfl
  simp [rangeB, this]

/-- What stands at a place. -/
def nthP (l : List Ent) (n : Int) : Ent × Bool := if n < 0 then (⟨⟨#[]⟩, []⟩, false) else match l[n.toNat]? with | some e => (e, true) | none => (⟨⟨#[]⟩, []⟩, false)
/-- The last one that is no greater. -/
def floorP (l : List Ent) (name : ByteArray) : Ent × Bool := match (l.filter (floorB name)).getLast? with | some e => (e, true) | none => (⟨⟨#[]⟩, []⟩, false)

theorem nthP_no {l : List Ent} {n : Int} (h : n < 0 ∨ (l.length : Int) ≤ n) : nthP l n = (⟨⟨#[]⟩, []⟩, false) := by
  unfold nthP
  split
  · rfl
  · rw [List.getElem?_eq_none (by omega)]

theorem nthP_yes {l : List Ent} {n : Int} {k : Nat} {e : Ent} (h : n = k) (he : l[k]? = some e) : nthP l n = (e, true) := by
  subst h
  unfold nthP
  rw [if_neg (by omega), Int.toNat_natCast, he]

theorem floorP_no {l : List Ent} {n : ByteArray} (h : l.filter (floorB n) = []) : floorP l n = (⟨⟨#[]⟩, []⟩, false) := by
  unfold floorP
  rw [h]
  rfl

theorem floorP_yes {l : List Ent} {n : ByteArray} {e : Ent} (h : (l.filter (floorB n)).getLast? = some e) : floorP l n = (e, true) := by
  unfold floorP
  rw [h]

set_option linter.unusedSimpArgs false
section
variable {A : AProg} (hA : Prg A)
include hA

theorem c27' {D σ v} {l : List Ent} {n : Int} (h : SlR entK D σ v l) {R : Value → AHeap → Prop}
    (hR : ∀ ve, SlR verK D σ ve (nthP l n).1.vs → R (.tuple #[.agg #[.string (nthP l n).1.name, ve], .bool (nthP l n).2]) σ) : C A 27 [v, .int .i64 n] σ R := by
  refine c27 hA h (fun hn => ?_) (fun k e ve hn he hv => ?_)
  · rw [nthP_no hn] at hR
    exact hR _ .nil
  · rw [nthP_yes hn he] at hR
    exact hR _ hv

theorem c29' {D σ v} {l : List Ent} {name : ByteArray} (h : SlR entK D σ v l) (hl : l.length ≤ 1000) {R : Value → AHeap → Prop}
    (hR : ∀ ve, SlR verK D σ ve (floorP l name).1.vs → R (.tuple #[.agg #[.string (floorP l name).1.name, ve], .bool (floorP l name).2]) σ) : C A 29 [v, .string name] σ R := by
  refine c29 hA h hl (fun hn => ?_) (fun e ve he hv => ?_)
  · rw [floorP_no hn] at hR
    exact hR _ .nil
  · rw [floorP_yes he] at hR
    exact hR _ hv

/-- A tree in memory, of some secrets: what list's calls answer. -/
structure Gr (hb : Nat) (N : List Nat) (σ : AHeap) (H : List NodeT) (r : RefT) (es : List Ent) : Prop where
  is : (heapStore hA hb).is [] N σ H
  tree : ∃ h, Tree H h r es
  few : es.length ≤ 50

variable {hA}
theorem Gr.move {hb N σ N' σ' H r es} (g : Gr hA hb N σ H r es) (h : (heapStore hA hb).is [] N' σ' H) : Gr hA hb N' σ' H r es := ⟨h, g.tree, g.few⟩
theorem Gr.own {hb N M σ σ' H r es} (g : Gr hA hb N σ H r es) (h : Mv [] σ M σ') : Gr hA hb N σ' H r es := ⟨(heapStore hA hb).step g.is h.drop, g.tree, g.few⟩

theorem Gr.facts {hb N σ H r es} (g : Gr hA hb N σ H r es) : allP (heapStore hA hb) 8 H [] r = (.ok (seen H 8 r), H) ∧ (seen H 8 r).length ≤ 100000 ∧ (∀ x ∈ seen H 8 r, x.node.es.length ≤ 1000) ∧ ∀ p, secP p (seen H 8 r) = es.filter p := by
  obtain ⟨h, t⟩ := g.tree
  have hf := g.few
  have hh := t.low_height (by omega)
  have := t.seen_len (u := 8) (by omega)
  exact ⟨t.all hA hb (by omega), by omega, fun x hx => by have := t.part (by omega) x hx; omega, t.sec (by omega)⟩

variable (hA)
theorem c23' {σ v} {l : List Ent} (hl : SlR entK [] σ v l) {R : Value → AHeap → Prop}
    (hR : ∀ H root es N va σ', Gr hA σ.size N σ' H root es → Srt es → es.length ≤ l.length → (∀ e ∈ es, e ∈ l) → SlR entK N σ' va es → Mv [] σ N σ' →
      R (.tuple #[.pointer (some ⟨σ.size, 0, none⟩), .agg #[.int .u64 root.key, .int .i64 root.seg, .int .i64 root.off, .int .i64 root.len], va]) σ') : C A 23 [v] σ R :=
  c23 hA hl fun H h root es N va σ' hi ht h50 hle hin _ hva hm => hR H root es N va σ' ⟨hi, ⟨h, ht⟩, h50⟩ ht.srt hle hin hva hm

theorem g24 {hb N σ H es} {r : RefT} {f t : ByteArray} (g : Gr hA hb N σ H r es) {R : Value → AHeap → Prop}
    (hR : ∀ v' N' σ', Gr hA hb N' σ' H r es → SlR entK N' σ' v' (es.filter (rangeB f t)) → Mv N σ N' σ' → R (.tuple #[v', .int .i64 0]) σ') :
    C A 24 [.iface 24 (.pointer (some ⟨hb, 0, none⟩)), .agg #[.int .u64 r.key, .int .i64 r.seg, .int .i64 r.off, .int .i64 r.len], .string f, .string t] σ R := by
  obtain ⟨h1, h2, h3, h4⟩ := g.facts
  exact c24 hA (heapStore hA hb) (D0 := []) g.is (by simp) h1 h2 h3 fun v' N' σ' hi hs hm => hR v' N' σ' (g.move hi) (by rw [← h4]; simpa using hs) hm

theorem g25 {hb N σ H es} {r : RefT} (g : Gr hA hb N σ H r es) {R : Value → AHeap → Prop}
    (hR : ∀ N' σ', Gr hA hb N' σ' H r es → Mv N σ N' σ' → R (.tuple #[.int .i64 es.length, .int .i64 0]) σ') :
    C A 25 [.iface 24 (.pointer (some ⟨hb, 0, none⟩)), .agg #[.int .u64 r.key, .int .i64 r.seg, .int .i64 r.off, .int .i64 r.len]] σ R := by
  obtain ⟨h1, h2, h3, h4⟩ := g.facts
  refine c25 hA (heapStore hA hb) (D0 := []) g.is (by simp) h1 h2 h3 fun N' σ' hi hm => ?_
  rw [h4, range_all]
  exact hR N' σ' (g.move hi) hm

theorem g26 {hb N σ H es} {r : RefT} {n : Int} (g : Gr hA hb N σ H r es) {R : Value → AHeap → Prop}
    (hR : ∀ ve N' σ', Gr hA hb N' σ' H r es → SlR verK N' σ' ve (nthP es n).1.vs → Mv N σ N' σ' → R (.tuple #[.agg #[.string (nthP es n).1.name, ve], .bool (nthP es n).2, .int .i64 0]) σ') :
    C A 26 [.iface 24 (.pointer (some ⟨hb, 0, none⟩)), .agg #[.int .u64 r.key, .int .i64 r.seg, .int .i64 r.off, .int .i64 r.len], .int .i64 n] σ R := by
  obtain ⟨h1, h2, h3, h4⟩ := g.facts
  refine c26 hA (heapStore hA hb) (D0 := []) g.is (by simp) h1 h2 h3 (fun hn N' σ' hi hm => ?_) (fun k e ve N' σ' hn he hi hv hm => ?_)
  · rw [h4, range_all] at hn
    rw [nthP_no hn] at hR
    exact hR _ N' σ' (g.move hi) .nil hm
  · rw [h4, range_all] at he
    rw [nthP_yes hn he] at hR
    exact hR _ N' σ' (g.move hi) (by simpa using hv) hm

theorem g28 {hb N σ H es} {r : RefT} {n : ByteArray} (g : Gr hA hb N σ H r es) {R : Value → AHeap → Prop}
    (hR : ∀ ve N' σ', Gr hA hb N' σ' H r es → SlR verK N' σ' ve (floorP es n).1.vs → Mv N σ N' σ' → R (.tuple #[.agg #[.string (floorP es n).1.name, ve], .bool (floorP es n).2, .int .i64 0]) σ') :
    C A 28 [.iface 24 (.pointer (some ⟨hb, 0, none⟩)), .agg #[.int .u64 r.key, .int .i64 r.seg, .int .i64 r.off, .int .i64 r.len], .string n] σ R := by
  obtain ⟨h1, h2, h3, h4⟩ := g.facts
  refine c28 hA (heapStore hA hb) (D0 := []) g.is (by simp) h1 h2 h3 (fun hn N' σ' hi hm => ?_) (fun e ve N' σ' he hi hv hm => ?_)
  · rw [h4] at hn
    rw [floorP_no hn] at hR
    exact hR _ N' σ' (g.move hi) .nil hm
  · rw [h4] at he
    rw [floorP_yes he] at hR
    exact hR _ N' σ' (g.move hi) (by simpa using hv) hm

theorem g32 {hb N σ H es pv} {r : RefT} {ps : List ByteArray} (g : Gr hA hb N σ H r es) (hp : SlR strK N σ pv ps) {R : Value → AHeap → Prop}
    (hR : ∀ v' N' σ', Gr hA hb N' σ' H r es → SlR strK N' σ' v' ((es.filter (namedB ps)).map (·.name)) → Mv N σ N' σ' → R (.tuple #[v', .int .i64 0]) σ') :
    C A 32 [.iface 24 (.pointer (some ⟨hb, 0, none⟩)), .agg #[.int .u64 r.key, .int .i64 r.seg, .int .i64 r.off, .int .i64 r.len], pv] σ R := by
  obtain ⟨h1, h2, h3, h4⟩ := g.facts
  refine c32 hA (heapStore hA hb) (D0 := []) g.is (by simp) (by simpa using hp) h1 h2 h3 ?_ (fun v' N' σ' hi hs hm => hR v' N' σ' (g.move hi) (by rw [← h4]; simpa using hs) hm)
  rw [h4]
  have := List.length_filter_le (namedB ps) es
  have := g.few
  omega

theorem c5 {σ v pv} {l : List Ent} {ps : List ByteArray} (hl : SlR entK [] σ v l) (hp : SlR strK [] σ pv ps) : C A 5 [v, pv] σ fun r _ => r = .bool true := by
  refine C_fn s5 (hA.at rfl) ?_
  obtain ⟨bp, cp, rfl⟩ := hp.shape
  simp only [s5, sx, argsFr, Sq, SI.wanted, AFr.ev, AFr.evV, AFr.get, AFr.box, AFr.put, AFr.setb, AV.val, callee, evArgs, aBin, aUn, oneCell, cellsOf, Value.cells, evParts, evElems, evAll, fillP, zeros, RetK, resAll, resOf, tupleOf, bnd, intOf?, AFr.keep, RefT.cells, undef, Nat.reduceBEq, Nat.reduceAdd, Nat.reduceMul, Nat.reduceLeDiff, Nat.reduceEqDiff, reduceCtorEq, Int.reduceEq, Int.reduceLT, Int.reduceLE, Int.reduceAdd, Int.reduceSub]
  refine Or.inl (c23' hA hl (fun H root es N va σ1 g _ _ _ hva hm1 => ?_))
  obtain ⟨ba, ca, rfl⟩ := hva.shape
  have hf := g.few
  simp only [sx, argsFr, Sq, SI.wanted, AFr.ev, AFr.evV, AFr.get, AFr.box, AFr.put, AFr.setb, AV.val, callee, evArgs, aBin, aUn, oneCell, cellsOf, Value.cells, evParts, evElems, evAll, fillP, zeros, RetK, resAll, resOf, tupleOf, bnd, intOf?, AFr.keep, RefT.cells, undef, Nat.reduceBEq, Nat.reduceAdd, Nat.reduceMul, Nat.reduceLeDiff, Nat.reduceEqDiff, reduceCtorEq, Int.reduceEq, Int.reduceLT, Int.reduceLE, Int.reduceAdd, Int.reduceSub, aEq]
  refine Or.inl (g32 hA g (hp.step hm1) (fun v' N' σ' g' hv' hm' => ?_))
  obtain ⟨b', c', rfl⟩ := hv'.shape
  simp only [sx, argsFr, Sq, SI.wanted, AFr.ev, AFr.evV, AFr.get, AFr.box, AFr.put, AFr.setb, AV.val, callee, evArgs, aBin, aUn, oneCell, cellsOf, Value.cells, evParts, evElems, evAll, fillP, zeros, RetK, resAll, resOf, tupleOf, bnd, intOf?, AFr.keep, RefT.cells, undef, Nat.reduceBEq, Nat.reduceAdd, Nat.reduceMul, Nat.reduceLeDiff, Nat.reduceEqDiff, reduceCtorEq, Int.reduceEq, Int.reduceLT, Int.reduceLE, Int.reduceAdd, Int.reduceSub]
  have hN' : ∀ q ∈ N', q < σ'.size := fun q hq => (heapStore hA _).lt g'.is q hq
  refine Or.inl (c34 hA (hva.step hm') (hp.step (hm1.trans hm')) hN' (by omega) (fun v2 M σ2 ho hm2 => ?_))
  obtain ⟨b2, c2, rfl⟩ := ho.sl.shape
  simp only [sx, argsFr, Sq, SI.wanted, AFr.ev, AFr.evV, AFr.get, AFr.box, AFr.put, AFr.setb, AV.val, callee, evArgs, aBin, aUn, oneCell, cellsOf, Value.cells, evParts, evElems, evAll, fillP, zeros, RetK, resAll, resOf, tupleOf, bnd, intOf?, AFr.keep, RefT.cells, undef, Nat.reduceBEq, Nat.reduceAdd, Nat.reduceMul, Nat.reduceLeDiff, Nat.reduceEqDiff, reduceCtorEq, Int.reduceEq, Int.reduceLT, Int.reduceLE, Int.reduceAdd, Int.reduceSub]
  refine Or.inl (c33 hA (hv'.step (hm2.any N')) ho.sl ?_)
  simp only [sx, argsFr, Sq, SI.wanted, AFr.ev, AFr.evV, AFr.get, AFr.box, AFr.put, AFr.setb, AV.val, callee, evArgs, aBin, aUn, oneCell, cellsOf, Value.cells, evParts, evElems, evAll, fillP, zeros, RetK, resAll, resOf, tupleOf, bnd, intOf?, AFr.keep, RefT.cells, undef, Nat.reduceBEq, Nat.reduceAdd, Nat.reduceMul, Nat.reduceLeDiff, Nat.reduceEqDiff, reduceCtorEq, Int.reduceEq, Int.reduceLT, Int.reduceLE, Int.reduceAdd, Int.reduceSub, decide_true]

theorem c4 {σ v} {l : List Ent} {f t : ByteArray} {n : Int} (hl : SlR entK [] σ v l) : C A 4 [v, .string f, .string t, .int .i64 n] σ fun r _ => r = .bool true := by
  refine C_fn s4 (hA.at rfl) ?_
  simp only [s4, sx, argsFr, Sq, SI.wanted, AFr.ev, AFr.evV, AFr.get, AFr.box, AFr.put, AFr.setb, AV.val, callee, evArgs, aBin, aUn, oneCell, cellsOf, Value.cells, evParts, evElems, evAll, fillP, zeros, RetK, resAll, resOf, tupleOf, bnd, intOf?, AFr.keep, RefT.cells, undef, Nat.reduceBEq, Nat.reduceAdd, Nat.reduceMul, Nat.reduceLeDiff, Nat.reduceEqDiff, reduceCtorEq, Int.reduceEq, Int.reduceLT, Int.reduceLE, Int.reduceAdd, Int.reduceSub]
  refine Or.inl (c23' hA hl (fun H root es N va σ1 g _ _ _ hva hm1 => ?_))
  have hf := g.few
  obtain ⟨ba, ca, rfl⟩ := hva.shape
  simp only [sx, argsFr, Sq, SI.wanted, AFr.ev, AFr.evV, AFr.get, AFr.box, AFr.put, AFr.setb, AV.val, callee, evArgs, aBin, aUn, oneCell, cellsOf, Value.cells, evParts, evElems, evAll, fillP, zeros, RetK, resAll, resOf, tupleOf, bnd, intOf?, AFr.keep, RefT.cells, undef, Nat.reduceBEq, Nat.reduceAdd, Nat.reduceMul, Nat.reduceLeDiff, Nat.reduceEqDiff, reduceCtorEq, Int.reduceEq, Int.reduceLT, Int.reduceLE, Int.reduceAdd, Int.reduceSub, aEq]
  refine Or.inl (g24 hA g (fun v2 N2 σ2 g2 hv2 hm2 => ?_))
  have hva := hva.step hm2
  obtain ⟨b2, c2, rfl⟩ := hv2.shape
  simp only [sx, argsFr, Sq, SI.wanted, AFr.ev, AFr.evV, AFr.get, AFr.box, AFr.put, AFr.setb, AV.val, callee, evArgs, aBin, aUn, oneCell, cellsOf, Value.cells, evParts, evElems, evAll, fillP, zeros, RetK, resAll, resOf, tupleOf, bnd, intOf?, AFr.keep, RefT.cells, undef, Nat.reduceBEq, Nat.reduceAdd, Nat.reduceMul, Nat.reduceLeDiff, Nat.reduceEqDiff, reduceCtorEq, Int.reduceEq, Int.reduceLT, Int.reduceLE, Int.reduceAdd, Int.reduceSub]
  refine Or.inl (g25 hA g2 (fun N3 σ3 g3 hm3 => ?_))
  have hva := hva.step hm3
  have hv2 := hv2.step hm3
  simp only [sx, argsFr, Sq, SI.wanted, AFr.ev, AFr.evV, AFr.get, AFr.box, AFr.put, AFr.setb, AV.val, callee, evArgs, aBin, aUn, oneCell, cellsOf, Value.cells, evParts, evElems, evAll, fillP, zeros, RetK, resAll, resOf, tupleOf, bnd, intOf?, AFr.keep, RefT.cells, undef, Nat.reduceBEq, Nat.reduceAdd, Nat.reduceMul, Nat.reduceLeDiff, Nat.reduceEqDiff, reduceCtorEq, Int.reduceEq, Int.reduceLT, Int.reduceLE, Int.reduceAdd, Int.reduceSub]
  refine Or.inl (g26 hA g3 (fun v4 N4 σ4 g4 hv4 hm4 => ?_))
  have hva := hva.step hm4
  have hv2 := hv2.step hm4
  obtain ⟨b4, c4, rfl⟩ := hv4.shape
  simp only [sx, argsFr, Sq, SI.wanted, AFr.ev, AFr.evV, AFr.get, AFr.box, AFr.put, AFr.setb, AV.val, callee, evArgs, aBin, aUn, oneCell, cellsOf, Value.cells, evParts, evElems, evAll, fillP, zeros, RetK, resAll, resOf, tupleOf, bnd, intOf?, AFr.keep, RefT.cells, undef, Nat.reduceBEq, Nat.reduceAdd, Nat.reduceMul, Nat.reduceLeDiff, Nat.reduceEqDiff, reduceCtorEq, Int.reduceEq, Int.reduceLT, Int.reduceLE, Int.reduceAdd, Int.reduceSub]
  refine Or.inl (c27' hA hva (fun v5 hv5 => ?_))
  obtain ⟨b5, c5, rfl⟩ := hv5.shape
  simp only [sx, argsFr, Sq, SI.wanted, AFr.ev, AFr.evV, AFr.get, AFr.box, AFr.put, AFr.setb, AV.val, callee, evArgs, aBin, aUn, oneCell, cellsOf, Value.cells, evParts, evElems, evAll, fillP, zeros, RetK, resAll, resOf, tupleOf, bnd, intOf?, AFr.keep, RefT.cells, undef, Nat.reduceBEq, Nat.reduceAdd, Nat.reduceMul, Nat.reduceLeDiff, Nat.reduceEqDiff, reduceCtorEq, Int.reduceEq, Int.reduceLT, Int.reduceLE, Int.reduceAdd, Int.reduceSub]
  refine Or.inl (g28 hA g4 (fun v6 N6 σ6 g6 hv6 hm6 => ?_))
  have hva := hva.step hm6
  have hv2 := hv2.step hm6
  have hv4 := hv4.step hm6
  have hv5 := hv5.step hm6
  obtain ⟨b6, c6, rfl⟩ := hv6.shape
  simp only [sx, argsFr, Sq, SI.wanted, AFr.ev, AFr.evV, AFr.get, AFr.box, AFr.put, AFr.setb, AV.val, callee, evArgs, aBin, aUn, oneCell, cellsOf, Value.cells, evParts, evElems, evAll, fillP, zeros, RetK, resAll, resOf, tupleOf, bnd, intOf?, AFr.keep, RefT.cells, undef, Nat.reduceBEq, Nat.reduceAdd, Nat.reduceMul, Nat.reduceLeDiff, Nat.reduceEqDiff, reduceCtorEq, Int.reduceEq, Int.reduceLT, Int.reduceLE, Int.reduceAdd, Int.reduceSub]
  refine Or.inl (c29' hA hva (by omega) (fun v7 hv7 => ?_))
  obtain ⟨b7, c7, rfl⟩ := hv7.shape
  simp only [sx, argsFr, Sq, SI.wanted, AFr.ev, AFr.evV, AFr.get, AFr.box, AFr.put, AFr.setb, AV.val, callee, evArgs, aBin, aUn, oneCell, cellsOf, Value.cells, evParts, evElems, evAll, fillP, zeros, RetK, resAll, resOf, tupleOf, bnd, intOf?, AFr.keep, RefT.cells, undef, Nat.reduceBEq, Nat.reduceAdd, Nat.reduceMul, Nat.reduceLeDiff, Nat.reduceEqDiff, reduceCtorEq, Int.reduceEq, Int.reduceLT, Int.reduceLE, Int.reduceAdd, Int.reduceSub]
  have hN6 : ∀ q ∈ N6, q < σ6.size := fun q hq => (heapStore hA _).lt g6.is q hq
  refine Or.inl (c30 hA hva hN6 (by omega) (fun v8 M σ8 ho8 hm8 => ?_))
  obtain ⟨b8, c8, rfl⟩ := ho8.sl.shape
  simp only [sx, argsFr, Sq, SI.wanted, AFr.ev, AFr.evV, AFr.get, AFr.box, AFr.put, AFr.setb, AV.val, callee, evArgs, aBin, aUn, oneCell, cellsOf, Value.cells, evParts, evElems, evAll, fillP, zeros, RetK, resAll, resOf, tupleOf, bnd, intOf?, AFr.keep, RefT.cells, undef, Nat.reduceBEq, Nat.reduceAdd, Nat.reduceMul, Nat.reduceLeDiff, Nat.reduceEqDiff, reduceCtorEq, Int.reduceEq, Int.reduceLT, Int.reduceLE, Int.reduceAdd, Int.reduceSub]
  refine Or.inl (c22 hA (hv2.step (hm8.any N6)) ho8.sl ?_)
  simp only [sx, argsFr, Sq, SI.wanted, AFr.ev, AFr.evV, AFr.get, AFr.box, AFr.put, AFr.setb, AV.val, callee, evArgs, aBin, aUn, oneCell, cellsOf, Value.cells, evParts, evElems, evAll, fillP, zeros, RetK, resAll, resOf, tupleOf, bnd, intOf?, AFr.keep, RefT.cells, undef, Nat.reduceBEq, Nat.reduceAdd, Nat.reduceMul, Nat.reduceLeDiff, Nat.reduceEqDiff, reduceCtorEq, Int.reduceEq, Int.reduceLT, Int.reduceLE, Int.reduceAdd, Int.reduceSub, decide_true, aEq, beq_self_eq_true]
  refine Or.inl (c31 hA (hv4.step (hm8.any N6)) (hv5.step (hm8.any N6)) ?_)
  simp only [sx, argsFr, Sq, SI.wanted, AFr.ev, AFr.evV, AFr.get, AFr.box, AFr.put, AFr.setb, AV.val, callee, evArgs, aBin, aUn, oneCell, cellsOf, Value.cells, evParts, evElems, evAll, fillP, zeros, RetK, resAll, resOf, tupleOf, bnd, intOf?, AFr.keep, RefT.cells, undef, Nat.reduceBEq, Nat.reduceAdd, Nat.reduceMul, Nat.reduceLeDiff, Nat.reduceEqDiff, reduceCtorEq, Int.reduceEq, Int.reduceLT, Int.reduceLE, Int.reduceAdd, Int.reduceSub, decide_true, aEq, beq_self_eq_true]
  refine Or.inl (c31 hA (hv6.step (hm8.any N6)) (hv7.step (hm8.any N6)) ?_)
  simp only [sx, argsFr, Sq, SI.wanted, AFr.ev, AFr.evV, AFr.get, AFr.box, AFr.put, AFr.setb, AV.val, callee, evArgs, aBin, aUn, oneCell, cellsOf, Value.cells, evParts, evElems, evAll, fillP, zeros, RetK, resAll, resOf, tupleOf, bnd, intOf?, AFr.keep, RefT.cells, undef, Nat.reduceBEq, Nat.reduceAdd, Nat.reduceMul, Nat.reduceLeDiff, Nat.reduceEqDiff, reduceCtorEq, Int.reduceEq, Int.reduceLT, Int.reduceLE, Int.reduceAdd, Int.reduceSub, decide_true, aEq, beq_self_eq_true]
end
end Go.Proofs.Ytbldkkabkijpgaa

namespace Go.Proofs.Ytbldkkabkijpgaa
open Go.Am

theorem strs_list {D : List Nat} {σ : AHeap} (ps : List ByteArray) : strK.list D σ (ps.map Value.string) ps := by
  intro i x hx
  show ((ps.map Value.string).drop (i * 1)).take 1 = [Value.string x]
  rw [Nat.mul_one, ← List.map_drop, ← List.map_take]
  obtain ⟨hi, rfl⟩ := List.getElem?_eq_some_iff.1 hx
  rw [List.drop_eq_getElem_cons hi]
  rfl

theorem strs_new {D : List Nat} {σ : AHeap} {c : Nat} {cells : List Value} (ps : List ByteArray) (hD : ∀ b ∈ D, b < σ.size) (hc : c = ps.length + 1) (hcs : cells = ps.map Value.string) (hn : ps.length ≤ 1000) :
    SlR strK D (σ.push (.row cells 1 .W)) (.slice (some ⟨σ.size, 0, none⟩) ps.length c) ps := by
  subst hcs
  exact (Own.newRow (K := strK) rfl hD hc (show ps.length * 16 ≤ maxN by unfold maxN; omega) (by show _ = ps.length * 1; simp) (strs_list ps)).sl

/-- The names of some secrets. -/
def namesP (ps : List ByteArray) (es : List Ent) : List ByteArray := (es.filter (namedB ps)).map (·.name)

theorem names_turn (a b : ByteArray) (es : List Ent) : namesP [b, a, b] es = namesP [a, b] es := by
  unfold namesP
  congr 1
  refine List.filter_congr fun e _ => ?_
  simp only [namedB, List.any_cons, List.any_nil]
  cases begB e.name a <;> cases begB e.name b <;> simp

theorem names_or (a b : ByteArray) (es : List Ent) : ∀ s ∈ namesP [a, b] es, memB s (namesP [a] es) = true ∨ memB s (namesP [b] es) = true := by
  intro s hs
  obtain ⟨e, he, rfl⟩ := List.mem_map.1 hs
  obtain ⟨h1, h2⟩ := List.mem_filter.1 he
  simp only [namedB, List.any_cons, List.any_nil, reduceCtorEq, decide_false, Bool.false_or, Bool.or_false] at h2
  rcases Bool.or_eq_true_iff.1 h2 with h2 | h2
  · left
    exact List.any_eq_true.2 ⟨e.name, List.mem_map.2 ⟨e, List.mem_filter.2 ⟨h1, by simp [namedB, h2]⟩, rfl⟩, by simp⟩
  · right
    exact List.any_eq_true.2 ⟨e.name, List.mem_map.2 ⟨e, List.mem_filter.2 ⟨h1, by simp [namedB, h2]⟩, rfl⟩, by simp⟩

theorem names_in (a b c : ByteArray) (es : List Ent) (hc : c = a ∨ c = b) : ∀ s ∈ namesP [c] es, memB s (namesP [a, b] es) = true := by
  intro s hs
  obtain ⟨e, he, rfl⟩ := List.mem_map.1 hs
  obtain ⟨h1, h2⟩ := List.mem_filter.1 he
  have h2 : begB e.name c = true := by simpa [namedB] using h2
  refine List.any_eq_true.2 ⟨e.name, List.mem_map.2 ⟨e, List.mem_filter.2 ⟨h1, ?_⟩, rfl⟩, by simp⟩
  rcases hc with rfl | rfl <;> simp [namedB, h2]

theorem names_few (a b : ByteArray) (es : List Ent) : (namesP [a, b] es).length ≤ (namesP [a] es).length + (namesP [b] es).length := by
  unfold namesP
  simp only [List.length_map]
  induction es with
  | nil => simp
  | cons e es ih =>
    simp only [List.filter_cons]
    have h : ∀ c, namedB [c] e = begB e.name c := fun c => by simp [namedB]
    have h' : namedB [a, b] e = (begB e.name a || begB e.name b) := by simp [namedB]
    rw [h, h, h']
    cases begB e.name a <;> cases begB e.name b <;> simp <;> omega

theorem names_srt {ps : List ByteArray} {es : List Ent} (hs : Srt es) : (namesP ps es).Pairwise Ltn := by
  unfold namesP
  rw [List.pairwise_map]
  exact hs.filter _

theorem names_len {ps : List ByteArray} {es : List Ent} : (namesP ps es).length ≤ es.length := by
  unfold namesP
  rw [List.length_map]
  exact List.length_filter_le _ _

set_option linter.unusedSimpArgs false
section
variable {A : AProg} (hA : Prg A)
include hA

theorem n32 {hb N σ H es pv} {r : RefT} {ps : List ByteArray} (g : Gr hA hb N σ H r es) (hp : SlR strK N σ pv ps) {R : Value → AHeap → Prop}
    (hR : ∀ v' N' σ', Gr hA hb N' σ' H r es → SlR strK N' σ' v' (namesP ps es) → Mv N σ N' σ' → R (.tuple #[v', .int .i64 0]) σ') :
    C A 32 [.iface 24 (.pointer (some ⟨hb, 0, none⟩)), .agg #[.int .u64 r.key, .int .i64 r.seg, .int .i64 r.off, .int .i64 r.len], pv] σ R := g32 hA g hp hR

variable {hA}
theorem Gr.push {hb N σ H r es} (g : Gr hA hb N σ H r es) (x : ABlk) : Gr hA hb N (σ.push x) H r es := ⟨(heapStore hA hb).step g.is (Mv.push [] σ x), g.tree, g.few⟩
theorem Gr.lt {hb N σ H r es} (g : Gr hA hb N σ H r es) : ∀ q ∈ N, q < σ.size := fun q hq => (heapStore hA _).lt g.is q hq
variable (hA)

theorem c6 {σ v} {l : List Ent} {a b : ByteArray} (hl : SlR entK [] σ v l) : C A 6 [v, .string a, .string b] σ fun r _ => r = .bool true := by
  refine C_fn s6 (hA.at rfl) ?_
  simp only [s6, sx, argsFr, Sq, SI.wanted, AFr.ev, AFr.evV, AFr.get, AFr.box, AFr.put, AFr.setb, AV.val, callee, evArgs, aBin, aUn, oneCell, cellsOf, Value.cells, evParts, evElems, evAll, fillP, zeros, RetK, resAll, resOf, tupleOf, bnd, intOf?, AFr.keep, RefT.cells, undef, Nat.reduceBEq, Nat.reduceAdd, Nat.reduceMul, Nat.reduceLeDiff, Nat.reduceEqDiff, reduceCtorEq, Int.reduceEq, Int.reduceLT, Int.reduceLE, Int.reduceAdd, Int.reduceSub]
  refine Or.inl (c23' hA hl (fun H root es N va σ1 g hsrt _ _ hva hm1 => ?_))
  obtain ⟨ba, ca, rfl⟩ := hva.shape
  have hf := g.few
  simp only [sx, argsFr, Sq, SI.wanted, AFr.ev, AFr.evV, AFr.get, AFr.box, AFr.put, AFr.setb, AV.val, callee, evArgs, aBin, aUn, oneCell, cellsOf, Value.cells, evParts, evElems, evAll, fillP, zeros, RetK, resAll, resOf, tupleOf, bnd, intOf?, AFr.keep, RefT.cells, undef, Nat.reduceBEq, Nat.reduceAdd, Nat.reduceMul, Nat.reduceLeDiff, Nat.reduceEqDiff, reduceCtorEq, Int.reduceEq, Int.reduceLT, Int.reduceLE, Int.reduceAdd, Int.reduceSub, aEq, Array.size_push]
  refine Or.inl (n32 hA (g.push _) (strs_new [a] g.lt rfl rfl (by simp)) (fun vx N2 σ2 g2 hx hm2 => ?_))
  obtain ⟨bx, cx, rfl⟩ := hx.shape
  simp only [sx, argsFr, Sq, SI.wanted, AFr.ev, AFr.evV, AFr.get, AFr.box, AFr.put, AFr.setb, AV.val, callee, evArgs, aBin, aUn, oneCell, cellsOf, Value.cells, evParts, evElems, evAll, fillP, zeros, RetK, resAll, resOf, tupleOf, bnd, intOf?, AFr.keep, RefT.cells, undef, Nat.reduceBEq, Nat.reduceAdd, Nat.reduceMul, Nat.reduceLeDiff, Nat.reduceEqDiff, reduceCtorEq, Int.reduceEq, Int.reduceLT, Int.reduceLE, Int.reduceAdd, Int.reduceSub]
  refine Or.inl (n32 hA (g2.push _) (strs_new [b] g2.lt rfl rfl (by simp)) (fun vy N3 σ3 g3 hy hm3 => ?_))
  have hx := hx.step ((Mv.push N2 σ2 _).trans hm3)
  obtain ⟨by_, cy, rfl⟩ := hy.shape
  simp only [sx, argsFr, Sq, SI.wanted, AFr.ev, AFr.evV, AFr.get, AFr.box, AFr.put, AFr.setb, AV.val, callee, evArgs, aBin, aUn, oneCell, cellsOf, Value.cells, evParts, evElems, evAll, fillP, zeros, RetK, resAll, resOf, tupleOf, bnd, intOf?, AFr.keep, RefT.cells, undef, Nat.reduceBEq, Nat.reduceAdd, Nat.reduceMul, Nat.reduceLeDiff, Nat.reduceEqDiff, reduceCtorEq, Int.reduceEq, Int.reduceLT, Int.reduceLE, Int.reduceAdd, Int.reduceSub]
  refine Or.inl (n32 hA (g3.push _) (strs_new [a, b] g3.lt rfl rfl (by simp)) (fun vb N4 σ4 g4 hB hm4 => ?_))
  have hx := hx.step ((Mv.push N3 σ3 _).trans hm4)
  have hy := hy.step ((Mv.push N3 σ3 _).trans hm4)
  obtain ⟨bb, cb, rfl⟩ := hB.shape
  simp only [sx, argsFr, Sq, SI.wanted, AFr.ev, AFr.evV, AFr.get, AFr.box, AFr.put, AFr.setb, AV.val, callee, evArgs, aBin, aUn, oneCell, cellsOf, Value.cells, evParts, evElems, evAll, fillP, zeros, RetK, resAll, resOf, tupleOf, bnd, intOf?, AFr.keep, RefT.cells, undef, Nat.reduceBEq, Nat.reduceAdd, Nat.reduceMul, Nat.reduceLeDiff, Nat.reduceEqDiff, reduceCtorEq, Int.reduceEq, Int.reduceLT, Int.reduceLE, Int.reduceAdd, Int.reduceSub]
  refine Or.inl (n32 hA (g4.push _) (strs_new [b, a, b] g4.lt rfl rfl (by simp)) (fun vt N5 σ5 g5 hT hm5 => ?_))
  have hx := hx.step ((Mv.push N4 σ4 _).trans hm5)
  have hy := hy.step ((Mv.push N4 σ4 _).trans hm5)
  have hB := hB.step ((Mv.push N4 σ4 _).trans hm5)
  obtain ⟨bt, ct, rfl⟩ := hT.shape
  simp only [sx, argsFr, Sq, SI.wanted, AFr.ev, AFr.evV, AFr.get, AFr.box, AFr.put, AFr.setb, AV.val, callee, evArgs, aBin, aUn, oneCell, cellsOf, Value.cells, evParts, evElems, evAll, fillP, zeros, RetK, resAll, resOf, tupleOf, bnd, intOf?, AFr.keep, RefT.cells, undef, Nat.reduceBEq, Nat.reduceAdd, Nat.reduceMul, Nat.reduceLeDiff, Nat.reduceEqDiff, reduceCtorEq, Int.reduceEq, Int.reduceLT, Int.reduceLE, Int.reduceAdd, Int.reduceSub]
  refine Or.inl (c33 hA hB hT ?_)
  rw [names_turn, decide_eq_true rfl]
  simp only [sx, argsFr, Sq, SI.wanted, AFr.ev, AFr.evV, AFr.get, AFr.box, AFr.put, AFr.setb, AV.val, callee, evArgs, aBin, aUn, oneCell, cellsOf, Value.cells, evParts, evElems, evAll, fillP, zeros, RetK, resAll, resOf, tupleOf, bnd, intOf?, AFr.keep, RefT.cells, undef, Nat.reduceBEq, Nat.reduceAdd, Nat.reduceMul, Nat.reduceLeDiff, Nat.reduceEqDiff, reduceCtorEq, Int.reduceEq, Int.reduceLT, Int.reduceLE, Int.reduceAdd, Int.reduceSub]
  have l1 := names_len (ps := [a]) (es := es)
  have l2 := names_len (ps := [b]) (es := es)
  have l3 := names_len (ps := [a, b]) (es := es)
  have o1 := names_or a b es
  have o2 := names_in a b a es (.inl rfl)
  have o3 := names_in a b b es (.inr rfl)
  have o4 := names_few a b es
  have o5 := names_srt (ps := [a, b]) hsrt
  generalize namesP [a] es = X at *
  generalize namesP [b] es = Y at *
  generalize namesP [a, b] es = B at *
  clear hT hva
  refine Lp_ind (fun i => B.length - i) (fun i f τ => τ = _ ∧ i ≤ B.length ∧ f.keep [10, 12, 14, 91, 92, 93] [] = some ⟨[(10, .v (.slice bx X.length cx)), (12, .v (.slice by_ Y.length cy)), (14, .v (.slice bb B.length cb)),
      (91, .v (.slice bb B.length cb)), (92, .v (.int .i64 B.length)), (93, .v (.int .i64 i))], []⟩) ?_ 0 _ _ ⟨rfl, Nat.zero_le _, rfl⟩
  rintro i f τ ⟨rfl, hi, hkp⟩ ih
  rw [St_seq, St_keep hkp]
  clear hkp
  simp only [sx, argsFr, Sq, SI.wanted, AFr.ev, AFr.evV, AFr.get, AFr.box, AFr.put, AFr.setb, AV.val, callee, evArgs, aBin, aUn, oneCell, cellsOf, Value.cells, evParts, evElems, evAll, fillP, zeros, RetK, resAll, resOf, tupleOf, bnd, intOf?, AFr.keep, RefT.cells, undef, Nat.reduceBEq, Nat.reduceAdd, Nat.reduceMul, Nat.reduceLeDiff, Nat.reduceEqDiff, reduceCtorEq, Int.reduceEq, Int.reduceLT, Int.reduceLE, Int.reduceAdd, Int.reduceSub]
  refine Cd_split (fun hc => ?_) (fun hc => ?_)
  · have hi' : i < B.length := by simpa using hc
    have hw : IntKind.i64.wrap ((i : Int) + 1) = ((i + 1 : Nat) : Int) := wrap_up (by omega)
    obtain ⟨b3, off3, cs3, e3, m3, u3, rfl, hb3, hcut3, hu3⟩ := hB.at1 (List.getElem?_eq_getElem hi') rfl
    have hu3' : u3 = .string B[i] := by simpa [strK, Kd.flat] using hu3
    subst hu3'
    have next : ∀ f : AFr, f.keep [10, 12, 14, 91, 92, 93] [] = some ⟨[(10, .v (.slice bx X.length cx)), (12, .v (.slice by_ Y.length cy)), (14, .v (.slice (some ⟨b3, off3, none⟩) B.length cb)),
      (91, .v (.slice (some ⟨b3, off3, none⟩) B.length cb)), (92, .v (.int .i64 B.length)), (93, .v (.int .i64 (i + 1 : Nat)))], []⟩ → Lp A _ _ _ f τ := fun f hf => ih (i + 1) f τ (by omega) ⟨rfl, by omega, hf⟩
    clear ih
    have hxy := o1 B[i] (List.getElem_mem _)
    by_cases h0 : i = 0
    · have q0 : ¬ ((i : Int) > 0) := by omega
      simp only [sx, argsFr, Sq, SI.wanted, AFr.ev, AFr.evV, AFr.get, AFr.box, AFr.put, AFr.setb, AV.val, callee, evArgs, aBin, aUn, oneCell, cellsOf, Value.cells, evParts, evElems, evAll, fillP, zeros, RetK, resAll, resOf, tupleOf, bnd, intOf?, AFr.keep, RefT.cells, undef, Nat.reduceBEq, Nat.reduceAdd, Nat.reduceMul, Nat.reduceLeDiff, Nat.reduceEqDiff, reduceCtorEq, Int.reduceEq, Int.reduceLT, Int.reduceLE, Int.reduceAdd, Int.reduceSub, hi', hb3, hcut3, q0]
      refine Or.inl (c35 hA hx ?_)
      cases hmx : memB B[i] X with
      | true =>
        simp only [sx, argsFr, Sq, SI.wanted, AFr.ev, AFr.evV, AFr.get, AFr.box, AFr.put, AFr.setb, AV.val, callee, evArgs, aBin, aUn, oneCell, cellsOf, Value.cells, evParts, evElems, evAll, fillP, zeros, RetK, resAll, resOf, tupleOf, bnd, intOf?, AFr.keep, RefT.cells, undef, Nat.reduceBEq, Nat.reduceAdd, Nat.reduceMul, Nat.reduceLeDiff, Nat.reduceEqDiff, reduceCtorEq, Int.reduceEq, Int.reduceLT, Int.reduceLE, Int.reduceAdd, Int.reduceSub]
        refine next _ ?_
        simp only [sx, argsFr, Sq, SI.wanted, AFr.ev, AFr.evV, AFr.get, AFr.box, AFr.put, AFr.setb, AV.val, callee, evArgs, aBin, aUn, oneCell, cellsOf, Value.cells, evParts, evElems, evAll, fillP, zeros, RetK, resAll, resOf, tupleOf, bnd, intOf?, AFr.keep, RefT.cells, undef, Nat.reduceBEq, Nat.reduceAdd, Nat.reduceMul, Nat.reduceLeDiff, Nat.reduceEqDiff, reduceCtorEq, Int.reduceEq, Int.reduceLT, Int.reduceLE, Int.reduceAdd, Int.reduceSub, hw]
      | false =>
        have hmy : memB B[i] Y = true := by simpa [hmx] using hxy
        simp only [sx, argsFr, Sq, SI.wanted, AFr.ev, AFr.evV, AFr.get, AFr.box, AFr.put, AFr.setb, AV.val, callee, evArgs, aBin, aUn, oneCell, cellsOf, Value.cells, evParts, evElems, evAll, fillP, zeros, RetK, resAll, resOf, tupleOf, bnd, intOf?, AFr.keep, RefT.cells, undef, Nat.reduceBEq, Nat.reduceAdd, Nat.reduceMul, Nat.reduceLeDiff, Nat.reduceEqDiff, reduceCtorEq, Int.reduceEq, Int.reduceLT, Int.reduceLE, Int.reduceAdd, Int.reduceSub]
        refine Or.inl (c35 hA hy ?_)
        rw [hmy]
        simp only [sx, argsFr, Sq, SI.wanted, AFr.ev, AFr.evV, AFr.get, AFr.box, AFr.put, AFr.setb, AV.val, callee, evArgs, aBin, aUn, oneCell, cellsOf, Value.cells, evParts, evElems, evAll, fillP, zeros, RetK, resAll, resOf, tupleOf, bnd, intOf?, AFr.keep, RefT.cells, undef, Nat.reduceBEq, Nat.reduceAdd, Nat.reduceMul, Nat.reduceLeDiff, Nat.reduceEqDiff, reduceCtorEq, Int.reduceEq, Int.reduceLT, Int.reduceLE, Int.reduceAdd, Int.reduceSub]
        refine next _ ?_
        simp only [sx, argsFr, Sq, SI.wanted, AFr.ev, AFr.evV, AFr.get, AFr.box, AFr.put, AFr.setb, AV.val, callee, evArgs, aBin, aUn, oneCell, cellsOf, Value.cells, evParts, evElems, evAll, fillP, zeros, RetK, resAll, resOf, tupleOf, bnd, intOf?, AFr.keep, RefT.cells, undef, Nat.reduceBEq, Nat.reduceAdd, Nat.reduceMul, Nat.reduceLeDiff, Nat.reduceEqDiff, reduceCtorEq, Int.reduceEq, Int.reduceLT, Int.reduceLE, Int.reduceAdd, Int.reduceSub, hw]
    · have q0 : ((i : Int) > 0) := by omega
      have hj' : i - 1 < B.length := by omega
      have hw2 : IntKind.i64.wrap ((i : Int) - 1) = ((i - 1 : Nat) : Int) := by rw [wrap_in (by omega) (by omega)]; omega
      obtain ⟨b4, off4, cs4, e4, m4, u4, he4, hb4, hcut4, hu4⟩ := hB.at1 (List.getElem?_eq_getElem hj') rfl
      have hu4' : u4 = .string B[i - 1] := by simpa [strK, Kd.flat] using hu4
      subst hu4'
      simp only [Option.some.injEq, Addr.mk.injEq, and_true] at he4
      obtain ⟨rfl, rfl⟩ := he4
      rw [hb3] at hb4
      cases hb4
      have hlt : Op.bytesLess B[i - 1].toList B[i].toList = true := (List.pairwise_iff_getElem.1 o5) (i - 1) i hj' hi' (by omega)
      simp only [sx, argsFr, Sq, SI.wanted, AFr.ev, AFr.evV, AFr.get, AFr.box, AFr.put, AFr.setb, AV.val, callee, evArgs, aBin, aUn, oneCell, cellsOf, Value.cells, evParts, evElems, evAll, fillP, zeros, RetK, resAll, resOf, tupleOf, bnd, intOf?, AFr.keep, RefT.cells, undef, Nat.reduceBEq, Nat.reduceAdd, Nat.reduceMul, Nat.reduceLeDiff, Nat.reduceEqDiff, reduceCtorEq, Int.reduceEq, Int.reduceLT, Int.reduceLE, Int.reduceAdd, Int.reduceSub, hi', hj', hb3, hcut3, hcut4, q0, hw2, hlt]
      refine Or.inl (c35 hA hx ?_)
      cases hmx : memB B[i] X with
      | true =>
        simp only [sx, argsFr, Sq, SI.wanted, AFr.ev, AFr.evV, AFr.get, AFr.box, AFr.put, AFr.setb, AV.val, callee, evArgs, aBin, aUn, oneCell, cellsOf, Value.cells, evParts, evElems, evAll, fillP, zeros, RetK, resAll, resOf, tupleOf, bnd, intOf?, AFr.keep, RefT.cells, undef, Nat.reduceBEq, Nat.reduceAdd, Nat.reduceMul, Nat.reduceLeDiff, Nat.reduceEqDiff, reduceCtorEq, Int.reduceEq, Int.reduceLT, Int.reduceLE, Int.reduceAdd, Int.reduceSub]
        refine next _ ?_
        simp only [sx, argsFr, Sq, SI.wanted, AFr.ev, AFr.evV, AFr.get, AFr.box, AFr.put, AFr.setb, AV.val, callee, evArgs, aBin, aUn, oneCell, cellsOf, Value.cells, evParts, evElems, evAll, fillP, zeros, RetK, resAll, resOf, tupleOf, bnd, intOf?, AFr.keep, RefT.cells, undef, Nat.reduceBEq, Nat.reduceAdd, Nat.reduceMul, Nat.reduceLeDiff, Nat.reduceEqDiff, reduceCtorEq, Int.reduceEq, Int.reduceLT, Int.reduceLE, Int.reduceAdd, Int.reduceSub, hw]
      | false =>
        have hmy : memB B[i] Y = true := by simpa [hmx] using hxy
        simp only [sx, argsFr, Sq, SI.wanted, AFr.ev, AFr.evV, AFr.get, AFr.box, AFr.put, AFr.setb, AV.val, callee, evArgs, aBin, aUn, oneCell, cellsOf, Value.cells, evParts, evElems, evAll, fillP, zeros, RetK, resAll, resOf, tupleOf, bnd, intOf?, AFr.keep, RefT.cells, undef, Nat.reduceBEq, Nat.reduceAdd, Nat.reduceMul, Nat.reduceLeDiff, Nat.reduceEqDiff, reduceCtorEq, Int.reduceEq, Int.reduceLT, Int.reduceLE, Int.reduceAdd, Int.reduceSub]
        refine Or.inl (c35 hA hy ?_)
        rw [hmy]
        simp only [sx, argsFr, Sq, SI.wanted, AFr.ev, AFr.evV, AFr.get, AFr.box, AFr.put, AFr.setb, AV.val, callee, evArgs, aBin, aUn, oneCell, cellsOf, Value.cells, evParts, evElems, evAll, fillP, zeros, RetK, resAll, resOf, tupleOf, bnd, intOf?, AFr.keep, RefT.cells, undef, Nat.reduceBEq, Nat.reduceAdd, Nat.reduceMul, Nat.reduceLeDiff, Nat.reduceEqDiff, reduceCtorEq, Int.reduceEq, Int.reduceLT, Int.reduceLE, Int.reduceAdd, Int.reduceSub]
        refine next _ ?_
        simp only [sx, argsFr, Sq, SI.wanted, AFr.ev, AFr.evV, AFr.get, AFr.box, AFr.put, AFr.setb, AV.val, callee, evArgs, aBin, aUn, oneCell, cellsOf, Value.cells, evParts, evElems, evAll, fillP, zeros, RetK, resAll, resOf, tupleOf, bnd, intOf?, AFr.keep, RefT.cells, undef, Nat.reduceBEq, Nat.reduceAdd, Nat.reduceMul, Nat.reduceLeDiff, Nat.reduceEqDiff, reduceCtorEq, Int.reduceEq, Int.reduceLT, Int.reduceLE, Int.reduceAdd, Int.reduceSub, hw]
  · simp only [sx, argsFr, Sq, SI.wanted, AFr.ev, AFr.evV, AFr.get, AFr.box, AFr.put, AFr.setb, AV.val, callee, evArgs, aBin, aUn, oneCell, cellsOf, Value.cells, evParts, evElems, evAll, fillP, zeros, RetK, resAll, resOf, tupleOf, bnd, intOf?, AFr.keep, RefT.cells, undef, Nat.reduceBEq, Nat.reduceAdd, Nat.reduceMul, Nat.reduceLeDiff, Nat.reduceEqDiff, reduceCtorEq, Int.reduceEq, Int.reduceLT, Int.reduceLE, Int.reduceAdd, Int.reduceSub]
    clear ih
    refine Lp_ind (fun i => X.length - i) (fun i f τ => τ = _ ∧ i ≤ X.length ∧ f.keep [10, 12, 14, 122, 123, 124] [] = some ⟨[(10, .v (.slice bx X.length cx)), (12, .v (.slice by_ Y.length cy)), (14, .v (.slice bb B.length cb)),
        (122, .v (.slice bx X.length cx)), (123, .v (.int .i64 X.length)), (124, .v (.int .i64 i))], []⟩) ?_ 0 _ _ ⟨rfl, Nat.zero_le _, rfl⟩
    rintro i f τ ⟨rfl, hi, hkp⟩ ih
    rw [St_seq, St_keep hkp]
    clear hkp
    simp only [sx, argsFr, Sq, SI.wanted, AFr.ev, AFr.evV, AFr.get, AFr.box, AFr.put, AFr.setb, AV.val, callee, evArgs, aBin, aUn, oneCell, cellsOf, Value.cells, evParts, evElems, evAll, fillP, zeros, RetK, resAll, resOf, tupleOf, bnd, intOf?, AFr.keep, RefT.cells, undef, Nat.reduceBEq, Nat.reduceAdd, Nat.reduceMul, Nat.reduceLeDiff, Nat.reduceEqDiff, reduceCtorEq, Int.reduceEq, Int.reduceLT, Int.reduceLE, Int.reduceAdd, Int.reduceSub]
    refine Cd_split (fun hc => ?_) (fun hc => ?_)
    · have hi' : i < X.length := by simpa using hc
      have hw : IntKind.i64.wrap ((i : Int) + 1) = ((i + 1 : Nat) : Int) := wrap_up (by omega)
      obtain ⟨b3, off3, cs3, e3, m3, u3, rfl, hb3, hcut3, hu3⟩ := hx.at1 (List.getElem?_eq_getElem hi') rfl
      have hu3' : u3 = .string X[i] := by simpa [strK, Kd.flat] using hu3
      subst hu3'
      simp only [sx, argsFr, Sq, SI.wanted, AFr.ev, AFr.evV, AFr.get, AFr.box, AFr.put, AFr.setb, AV.val, callee, evArgs, aBin, aUn, oneCell, cellsOf, Value.cells, evParts, evElems, evAll, fillP, zeros, RetK, resAll, resOf, tupleOf, bnd, intOf?, AFr.keep, RefT.cells, undef, Nat.reduceBEq, Nat.reduceAdd, Nat.reduceMul, Nat.reduceLeDiff, Nat.reduceEqDiff, reduceCtorEq, Int.reduceEq, Int.reduceLT, Int.reduceLE, Int.reduceAdd, Int.reduceSub, hi', hb3, hcut3]
      refine Or.inl (c35 hA hB ?_)
      rw [o2 X[i] (List.getElem_mem _)]
      simp only [sx, argsFr, Sq, SI.wanted, AFr.ev, AFr.evV, AFr.get, AFr.box, AFr.put, AFr.setb, AV.val, callee, evArgs, aBin, aUn, oneCell, cellsOf, Value.cells, evParts, evElems, evAll, fillP, zeros, RetK, resAll, resOf, tupleOf, bnd, intOf?, AFr.keep, RefT.cells, undef, Nat.reduceBEq, Nat.reduceAdd, Nat.reduceMul, Nat.reduceLeDiff, Nat.reduceEqDiff, reduceCtorEq, Int.reduceEq, Int.reduceLT, Int.reduceLE, Int.reduceAdd, Int.reduceSub]
      refine ih (i + 1) _ _ (by omega) ⟨rfl, by omega, ?_⟩
      simp only [sx, argsFr, Sq, SI.wanted, AFr.ev, AFr.evV, AFr.get, AFr.box, AFr.put, AFr.setb, AV.val, callee, evArgs, aBin, aUn, oneCell, cellsOf, Value.cells, evParts, evElems, evAll, fillP, zeros, RetK, resAll, resOf, tupleOf, bnd, intOf?, AFr.keep, RefT.cells, undef, Nat.reduceBEq, Nat.reduceAdd, Nat.reduceMul, Nat.reduceLeDiff, Nat.reduceEqDiff, reduceCtorEq, Int.reduceEq, Int.reduceLT, Int.reduceLE, Int.reduceAdd, Int.reduceSub, hw]
    · simp only [sx, argsFr, Sq, SI.wanted, AFr.ev, AFr.evV, AFr.get, AFr.box, AFr.put, AFr.setb, AV.val, callee, evArgs, aBin, aUn, oneCell, cellsOf, Value.cells, evParts, evElems, evAll, fillP, zeros, RetK, resAll, resOf, tupleOf, bnd, intOf?, AFr.keep, RefT.cells, undef, Nat.reduceBEq, Nat.reduceAdd, Nat.reduceMul, Nat.reduceLeDiff, Nat.reduceEqDiff, reduceCtorEq, Int.reduceEq, Int.reduceLT, Int.reduceLE, Int.reduceAdd, Int.reduceSub]
      clear ih
      refine Lp_ind (fun i => Y.length - i) (fun i f τ => τ = _ ∧ i ≤ Y.length ∧ f.keep [10, 12, 14, 133, 134, 135] [] = some ⟨[(10, .v (.slice bx X.length cx)), (12, .v (.slice by_ Y.length cy)), (14, .v (.slice bb B.length cb)),
          (133, .v (.slice by_ Y.length cy)), (134, .v (.int .i64 Y.length)), (135, .v (.int .i64 i))], []⟩) ?_ 0 _ _ ⟨rfl, Nat.zero_le _, rfl⟩
      rintro i f τ ⟨rfl, hi, hkp⟩ ih
      rw [St_seq, St_keep hkp]
      clear hkp
      simp only [sx, argsFr, Sq, SI.wanted, AFr.ev, AFr.evV, AFr.get, AFr.box, AFr.put, AFr.setb, AV.val, callee, evArgs, aBin, aUn, oneCell, cellsOf, Value.cells, evParts, evElems, evAll, fillP, zeros, RetK, resAll, resOf, tupleOf, bnd, intOf?, AFr.keep, RefT.cells, undef, Nat.reduceBEq, Nat.reduceAdd, Nat.reduceMul, Nat.reduceLeDiff, Nat.reduceEqDiff, reduceCtorEq, Int.reduceEq, Int.reduceLT, Int.reduceLE, Int.reduceAdd, Int.reduceSub]
      refine Cd_split (fun hc => ?_) (fun hc => ?_)
      · have hi' : i < Y.length := by simpa using hc
        have hw : IntKind.i64.wrap ((i : Int) + 1) = ((i + 1 : Nat) : Int) := wrap_up (by omega)
        obtain ⟨b3, off3, cs3, e3, m3, u3, rfl, hb3, hcut3, hu3⟩ := hy.at1 (List.getElem?_eq_getElem hi') rfl
        have hu3' : u3 = .string Y[i] := by simpa [strK, Kd.flat] using hu3
        subst hu3'
        simp only [sx, argsFr, Sq, SI.wanted, AFr.ev, AFr.evV, AFr.get, AFr.box, AFr.put, AFr.setb, AV.val, callee, evArgs, aBin, aUn, oneCell, cellsOf, Value.cells, evParts, evElems, evAll, fillP, zeros, RetK, resAll, resOf, tupleOf, bnd, intOf?, AFr.keep, RefT.cells, undef, Nat.reduceBEq, Nat.reduceAdd, Nat.reduceMul, Nat.reduceLeDiff, Nat.reduceEqDiff, reduceCtorEq, Int.reduceEq, Int.reduceLT, Int.reduceLE, Int.reduceAdd, Int.reduceSub, hi', hb3, hcut3]
        refine Or.inl (c35 hA hB ?_)
        rw [o3 Y[i] (List.getElem_mem _)]
        simp only [sx, argsFr, Sq, SI.wanted, AFr.ev, AFr.evV, AFr.get, AFr.box, AFr.put, AFr.setb, AV.val, callee, evArgs, aBin, aUn, oneCell, cellsOf, Value.cells, evParts, evElems, evAll, fillP, zeros, RetK, resAll, resOf, tupleOf, bnd, intOf?, AFr.keep, RefT.cells, undef, Nat.reduceBEq, Nat.reduceAdd, Nat.reduceMul, Nat.reduceLeDiff, Nat.reduceEqDiff, reduceCtorEq, Int.reduceEq, Int.reduceLT, Int.reduceLE, Int.reduceAdd, Int.reduceSub]
        refine ih (i + 1) _ _ (by omega) ⟨rfl, by omega, ?_⟩
        simp only [sx, argsFr, Sq, SI.wanted, AFr.ev, AFr.evV, AFr.get, AFr.box, AFr.put, AFr.setb, AV.val, callee, evArgs, aBin, aUn, oneCell, cellsOf, Value.cells, evParts, evElems, evAll, fillP, zeros, RetK, resAll, resOf, tupleOf, bnd, intOf?, AFr.keep, RefT.cells, undef, Nat.reduceBEq, Nat.reduceAdd, Nat.reduceMul, Nat.reduceLeDiff, Nat.reduceEqDiff, reduceCtorEq, Int.reduceEq, Int.reduceLT, Int.reduceLE, Int.reduceAdd, Int.reduceSub, hw]
      · simp only [sx, argsFr, Sq, SI.wanted, AFr.ev, AFr.evV, AFr.get, AFr.box, AFr.put, AFr.setb, AV.val, callee, evArgs, aBin, aUn, oneCell, cellsOf, Value.cells, evParts, evElems, evAll, fillP, zeros, RetK, resAll, resOf, tupleOf, bnd, intOf?, AFr.keep, RefT.cells, undef, Nat.reduceBEq, Nat.reduceAdd, Nat.reduceMul, Nat.reduceLeDiff, Nat.reduceEqDiff, reduceCtorEq, Int.reduceEq, Int.reduceLT, Int.reduceLE, Int.reduceAdd, Int.reduceSub]
        clear ih
        have hw : IntKind.i64.wrap ((X.length : Int) + (Y.length : Int)) = ((X.length + Y.length : Nat) : Int) := by rw [wrap_in (by omega) (by omega)]; omega
        have q : (B.length : Int) ≤ ((X.length + Y.length : Nat) : Int) := by omega
        simp only [sx, argsFr, Sq, SI.wanted, AFr.ev, AFr.evV, AFr.get, AFr.box, AFr.put, AFr.setb, AV.val, callee, evArgs, aBin, aUn, oneCell, cellsOf, Value.cells, evParts, evElems, evAll, fillP, zeros, RetK, resAll, resOf, tupleOf, bnd, intOf?, AFr.keep, RefT.cells, undef, Nat.reduceBEq, Nat.reduceAdd, Nat.reduceMul, Nat.reduceLeDiff, Nat.reduceEqDiff, reduceCtorEq, Int.reduceEq, Int.reduceLT, Int.reduceLE, Int.reduceAdd, Int.reduceSub, hw, q]
end
end Go.Proofs.Ytbldkkabkijpgaa

namespace Go.Proofs.Ytbldkkabkijpgaa
open Go.Am

theorem begB_iff (s w : ByteArray) : begB s w = true ↔ w.toList <+: s.toList := by
  unfold begB
  rw [List.prefix_iff_eq_take, Bool.and_eq_true, decide_eq_true_eq, decide_eq_true_eq, ByteArray.toList_eq, ByteArray.toList_eq]
  constructor
  · rintro ⟨h1, h2⟩
    have := congrArg (fun b : ByteArray => b.data.toList) h2
    simp only [ByteArray.data_extract, Array.toList_extract] at this
    simpa [List.extract] using this.symm
  · intro h
    have hl : w.size ≤ s.size := by
      have := congrArg List.length h
      simp only [List.length_take, Array.length_toList] at this
      have e1 : w.size = w.data.size := rfl
      have e2 : s.size = s.data.size := rfl
      omega
    refine ⟨hl, ByteArray.ext (Array.toList_inj.1 ?_)⟩
    rw [ByteArray.data_extract, Array.toList_extract]
    have e1 : w.size = w.data.toList.length := by simp
    simp only [List.extract, Nat.sub_zero, List.drop_zero]
    rw [e1]
    exact h.symm

theorem pre_not_less : ∀ {w s : List UInt8}, w <+: s → Op.bytesLess s w = false
  | [], s, _ => by cases s <;> rfl
  | x :: w, s, h => by
    obtain ⟨t, rfl⟩ := h
    rw [List.cons_append, Op.bytesLess]
    simp [pre_not_less (List.prefix_append w t)]

theorem pre_mid : ∀ {w a b : List UInt8}, w <+: b → Op.bytesLess a w = false → Op.bytesLess b a = false → w <+: a
  | [], a, b, _, _, _ => List.nil_prefix
  | x :: w, a, b, h, h1, h2 => by
    obtain ⟨t, rfl⟩ := h
    cases a with
    | nil => simp [Op.bytesLess] at h1
    | cons y a =>
      rw [List.cons_append, Op.bytesLess] at h2
      rw [Op.bytesLess] at h1
      simp only [Bool.or_eq_false_iff, Bool.and_eq_false_iff, decide_eq_false_iff_not, beq_eq_false_iff_ne] at h1 h2
      have hxy : x = y := by
        apply UInt8.toNat_inj.1
        have a1 := h1.1
        have a2 := h2.1
        rw [UInt8.lt_iff_toNat_lt] at a1 a2
        omega
      subst hxy
      have b1 : Op.bytesLess a w = false := by rcases h1.2 with h | h <;> simp_all
      have b2 : Op.bytesLess (w ++ t) a = false := by rcases h2.2 with h | h <;> simp_all
      exact (List.cons_prefix_cons).2 ⟨rfl, pre_mid (List.prefix_append w t) b1 b2⟩

/-- The names that begin with a text stand first of those that are not less. -/
theorem names_pre (p : ByteArray) : ∀ {es : List Ent}, Srt es → namesP [p] es <+: (es.filter (rangeB p ⟨#[]⟩)).map (·.name)
  | [], _ => by simp [namesP]
  | e :: es, hs => by
    have ht := (List.pairwise_cons.1 hs).2
    have hh := (List.pairwise_cons.1 hs).1
    have ih := names_pre p ht
    unfold namesP at ih ⊢
    rw [List.filter_cons, List.filter_cons]
    have hb : namedB [p] e = begB e.name p := by simp [namedB]
    have hr : rangeB p ⟨#[]⟩ e = !ltB e.name p := by simp [rangeB]
    rw [hb, hr]
    cases hbe : begB e.name p with
    | true =>
      have : ltB e.name p = false := pre_not_less ((begB_iff _ _).1 hbe)
      simpa [this] using ih
    | false =>
      cases hl : ltB e.name p with
      | true => simpa using ih
      | false =>
        have : es.filter (namedB [p]) = [] := filter_none fun y hy => by
          rw [Bool.eq_false_iff]
          intro h
          have h : begB y.name p = true := by simpa [namedB] using h
          have hlt : Ltn e.name y.name := hh y hy
          have := (begB_iff e.name p).2 (pre_mid ((begB_iff _ _).1 h) hl (Bool.eq_false_iff.2 hlt.asymm))
          rw [this] at hbe
          cases hbe
        simp [this]

theorem names_all (es : List Ent) : namesP [] es = es.map (·.name) := by
  unfold namesP
  rw [filter_all fun x _ => by simp [namedB]]

theorem floor_own {es : List Ent} (hs : Srt es) {k : Nat} (hk : k < es.length) : floorP es es[k].name = (es[k], true) := by
  refine floorP_yes ?_
  have h : es.filter (floorB es[k].name) = es.take (k + 1) := by
    have hcut : es.take (k + 1) ++ es.drop (k + 1) = es := List.take_append_drop _ _
    have hp := List.pairwise_iff_getElem.1 hs
    have h1 : (es.take (k + 1)).filter (floorB es[k].name) = es.take (k + 1) := filter_all fun x hx => by
      obtain ⟨j, hj, rfl⟩ := List.mem_iff_getElem.1 hx
      simp only [List.length_take] at hj
      rw [List.getElem_take]
      by_cases hjk : j = k
      · subst hjk
        simp [floorB]
      · have : ltB es[j].name es[k].name = true := hp j k (by omega) hk (by omega)
        simp [floorB, this]
    have h2 : (es.drop (k + 1)).filter (floorB es[k].name) = [] := filter_none fun x hx => by
      obtain ⟨j, hj, rfl⟩ := List.mem_iff_getElem.1 hx
      simp only [List.length_drop] at hj
      rw [List.getElem_drop]
      have h : Ltn es[k].name es[k + 1 + j].name := hp k (k + 1 + j) hk (by omega) (by omega)
      have h3 : ltB es[k + 1 + j].name es[k].name = false := Bool.eq_false_iff.2 h.asymm
      simp [floorB, h3, h.ne.symm]
    generalize floorB es[k].name = q at h1 h2 ⊢
    rw [show es.filter q = (es.take (k + 1) ++ es.drop (k + 1)).filter q by rw [hcut], List.filter_append, h1, h2, List.append_nil]
  rw [h, List.getLast?_eq_getElem?, List.length_take, Nat.min_eq_left (by omega), Nat.add_sub_cancel, List.getElem?_take, if_pos (by omega), List.getElem?_eq_getElem hk]

theorem side_all {es : List Ent} (hs : Srt es) {at_ : ByteArray} (ha : at_ ≠ ⟨#[]⟩) : es.filter (rangeB ⟨#[]⟩ at_) ++ es.filter (rangeB at_ ⟨#[]⟩) = es := by
  have h0 : ∀ x : ByteArray, ltB x ⟨#[]⟩ = false := fun x => by
    unfold ltB
    rw [show (⟨#[]⟩ : ByteArray).toList = [] by rw [ByteArray.toList_eq]]
    cases x.toList <;> rfl
  have hd : ∀ x : Ent, decide (Ltn x.name at_) = ltB x.name at_ := fun x => by
    rw [Bool.eq_iff_iff, decide_eq_true_eq]
    rfl
  have h1 : es.filter (rangeB ⟨#[]⟩ at_) = es.filter fun x => decide (Ltn x.name at_) := List.filter_congr fun x _ => by
    simp only [rangeB, h0, ha, decide_false, Bool.false_or, Bool.not_false, Bool.true_and]
    exact (hd x).symm
  have h2 : es.filter (rangeB at_ ⟨#[]⟩) = es.filter fun x => !decide (Ltn x.name at_) := List.filter_congr fun x _ => by
    simp only [rangeB, decide_true, Bool.true_or, Bool.and_true]
    rw [hd x]
  obtain ⟨k1, k2⟩ := bsP_spec at_ hs
  rw [h1, h2, ← k1, ← k2, List.take_append_drop]
end Go.Proofs.Ytbldkkabkijpgaa

namespace Go.Proofs.Ytbldkkabkijpgaa
open Go.Am

set_option linter.unusedSimpArgs false
section
variable {A : AProg} (hA : Prg A)
include hA

theorem c7 {σ v} {l : List Ent} {p at_ : ByteArray} (hl : SlR entK [] σ v l) : C A 7 [v, .string p, .string at_] σ fun r _ => r = .bool true := by
  refine C_fn s7 (hA.at rfl) ?_
  simp only [s7, sx, argsFr, Sq, SI.wanted, AFr.ev, AFr.evV, AFr.get, AFr.box, AFr.put, AFr.setb, AV.val, callee, evArgs, aBin, aUn, oneCell, cellsOf, Value.cells, evParts, evElems, evAll, fillP, zeros, RetK, resAll, resOf, tupleOf, bnd, intOf?, AFr.keep, RefT.cells, undef, Nat.reduceBEq, Nat.reduceAdd, Nat.reduceMul, Nat.reduceLeDiff, Nat.reduceEqDiff, reduceCtorEq, Int.reduceEq, Int.reduceLT, Int.reduceLE, Int.reduceAdd, Int.reduceSub]
  refine Or.inl (c23' hA hl (fun H root es N va σ1 g hsrt _ _ hva hm1 => ?_))
  obtain ⟨ba, ca, rfl⟩ := hva.shape
  have hf := g.few
  simp only [sx, argsFr, Sq, SI.wanted, AFr.ev, AFr.evV, AFr.get, AFr.box, AFr.put, AFr.setb, AV.val, callee, evArgs, aBin, aUn, oneCell, cellsOf, Value.cells, evParts, evElems, evAll, fillP, zeros, RetK, resAll, resOf, tupleOf, bnd, intOf?, AFr.keep, RefT.cells, undef, Nat.reduceBEq, Nat.reduceAdd, Nat.reduceMul, Nat.reduceLeDiff, Nat.reduceEqDiff, reduceCtorEq, Int.reduceEq, Int.reduceLT, Int.reduceLE, Int.reduceAdd, Int.reduceSub, aEq, Array.size_push]
  refine Or.inl (n32 hA (g.push _) (strs_new [p] g.lt rfl rfl (by simp)) (fun vx N2 σ2 g2 hx hm2 => ?_))
  have hva := hva.step ((Mv.push N σ1 _).trans hm2)
  obtain ⟨bx, cx, rfl⟩ := hx.shape
  simp only [sx, argsFr, Sq, SI.wanted, AFr.ev, AFr.evV, AFr.get, AFr.box, AFr.put, AFr.setb, AV.val, callee, evArgs, aBin, aUn, oneCell, cellsOf, Value.cells, evParts, evElems, evAll, fillP, zeros, RetK, resAll, resOf, tupleOf, bnd, intOf?, AFr.keep, RefT.cells, undef, Nat.reduceBEq, Nat.reduceAdd, Nat.reduceMul, Nat.reduceLeDiff, Nat.reduceEqDiff, reduceCtorEq, Int.reduceEq, Int.reduceLT, Int.reduceLE, Int.reduceAdd, Int.reduceSub]
  refine Or.inl (g24 hA g2 (fun vf N3 σ3 g3 hfr hm3 => ?_))
  have hva := hva.step hm3
  have hx := hx.step hm3
  obtain ⟨bf, cf, rfl⟩ := hfr.shape
  have l1 := names_len (ps := [p]) (es := es)
  have l2 := List.length_filter_le (rangeB p ⟨#[]⟩) es
  have hpre := names_pre p hsrt
  have l3 := hpre.length_le
  rw [List.length_map] at l3
  have q1 : ¬ ((namesP [p] es).length : Int) > ((es.filter (rangeB p ⟨#[]⟩)).length : Int) := by omega
  simp only [sx, argsFr, Sq, SI.wanted, AFr.ev, AFr.evV, AFr.get, AFr.box, AFr.put, AFr.setb, AV.val, callee, evArgs, aBin, aUn, oneCell, cellsOf, Value.cells, evParts, evElems, evAll, fillP, zeros, RetK, resAll, resOf, tupleOf, bnd, intOf?, AFr.keep, RefT.cells, undef, Nat.reduceBEq, Nat.reduceAdd, Nat.reduceMul, Nat.reduceLeDiff, Nat.reduceEqDiff, reduceCtorEq, Int.reduceEq, Int.reduceLT, Int.reduceLE, Int.reduceAdd, Int.reduceSub, q1]
  generalize hX : namesP [p] es = X at *
  generalize hF : es.filter (rangeB p ⟨#[]⟩) = F at *
  refine Lp_ind (fun i => X.length - i) (fun i f τ => τ = _ ∧ i ≤ X.length ∧ f.keep [2, 7, 8, 9, 12, 71, 72, 73] [8] = some ⟨[(2, .v (.string at_)), (7, .v (.pointer (some ⟨σ.size, 0, none⟩))), (8, .l 8 0), (9, .v (.slice ba es.length ca)), (12, .v (.slice bf F.length cf)),
      (71, .v (.slice bx X.length cx)), (72, .v (.int .i64 X.length)), (73, .v (.int .i64 i))], [(8, RefT.cells root)]⟩) ?_ 0 _ _ ⟨rfl, Nat.zero_le _, rfl⟩
  rintro i f τ ⟨rfl, hi, hkp⟩ ih
  rw [St_seq, St_keep hkp]
  clear hkp
  simp only [sx, argsFr, Sq, SI.wanted, AFr.ev, AFr.evV, AFr.get, AFr.box, AFr.put, AFr.setb, AV.val, callee, evArgs, aBin, aUn, oneCell, cellsOf, Value.cells, evParts, evElems, evAll, fillP, zeros, RetK, resAll, resOf, tupleOf, bnd, intOf?, AFr.keep, RefT.cells, undef, Nat.reduceBEq, Nat.reduceAdd, Nat.reduceMul, Nat.reduceLeDiff, Nat.reduceEqDiff, reduceCtorEq, Int.reduceEq, Int.reduceLT, Int.reduceLE, Int.reduceAdd, Int.reduceSub]
  refine Cd_split (fun hc => ?_) (fun hc => ?_)
  · have hi' : i < X.length := by simpa using hc
    have hj' : i < F.length := by omega
    have hw : IntKind.i64.wrap ((i : Int) + 1) = ((i + 1 : Nat) : Int) := wrap_up (by omega)
    obtain ⟨b3, off3, cs3, e3, m3, u3, rfl, hb3, hcut3, hu3⟩ := hx.at1 (List.getElem?_eq_getElem hi') rfl
    have hu3' : u3 = .string X[i] := by simpa [strK, Kd.flat] using hu3
    subst hu3'
    obtain ⟨b4, off4, cs4, e4, m4, cells, rfl, hb4, ⟨ve, rfl, hvs⟩, hcut4, _⟩ := hfr.atE (j := 2) rfl (List.getElem?_eq_getElem hj')
    obtain ⟨b7, c7, rfl⟩ := hvs.shape
    have hc4 : cut none cs4 (off4 + i * 2) = _ := hcut4 0 _ rfl
    have hn : F[i].name = X[i] := by
      have := hpre.getElem (i := i) hi'
      rw [this, List.getElem_map]
    simp only [sx, argsFr, Sq, SI.wanted, AFr.ev, AFr.evV, AFr.get, AFr.box, AFr.put, AFr.setb, AV.val, callee, evArgs, aBin, aUn, oneCell, cellsOf, Value.cells, evParts, evElems, evAll, fillP, zeros, RetK, resAll, resOf, tupleOf, bnd, intOf?, AFr.keep, RefT.cells, undef, Nat.reduceBEq, Nat.reduceAdd, Nat.reduceMul, Nat.reduceLeDiff, Nat.reduceEqDiff, reduceCtorEq, Int.reduceEq, Int.reduceLT, Int.reduceLE, Int.reduceAdd, Int.reduceSub, hi', hj', hb3, hcut3, hb4, hc4, hn]
    refine ih (i + 1) _ _ (by omega) ⟨rfl, by omega, ?_⟩
    simp only [sx, argsFr, Sq, SI.wanted, AFr.ev, AFr.evV, AFr.get, AFr.box, AFr.put, AFr.setb, AV.val, callee, evArgs, aBin, aUn, oneCell, cellsOf, Value.cells, evParts, evElems, evAll, fillP, zeros, RetK, resAll, resOf, tupleOf, bnd, intOf?, AFr.keep, RefT.cells, undef, Nat.reduceBEq, Nat.reduceAdd, Nat.reduceMul, Nat.reduceLeDiff, Nat.reduceEqDiff, reduceCtorEq, Int.reduceEq, Int.reduceLT, Int.reduceLE, Int.reduceAdd, Int.reduceSub, hw]
  · simp only [sx, argsFr, Sq, SI.wanted, AFr.ev, AFr.evV, AFr.get, AFr.box, AFr.put, AFr.setb, AV.val, callee, evArgs, aBin, aUn, oneCell, cellsOf, Value.cells, evParts, evElems, evAll, fillP, zeros, RetK, resAll, resOf, tupleOf, bnd, intOf?, AFr.keep, RefT.cells, undef, Nat.reduceBEq, Nat.reduceAdd, Nat.reduceMul, Nat.reduceLeDiff, Nat.reduceEqDiff, reduceCtorEq, Int.reduceEq, Int.reduceLT, Int.reduceLE, Int.reduceAdd, Int.reduceSub]
    clear ih hc hi
    refine Or.inl (n32 hA (ps := []) g3 .nil (fun ve N4 σ4 g4 he hm4 => ?_))
    have hva := hva.step hm4
    rw [names_all] at he
    obtain ⟨be, ce, rfl⟩ := he.shape
    simp only [sx, argsFr, Sq, SI.wanted, AFr.ev, AFr.evV, AFr.get, AFr.box, AFr.put, AFr.setb, AV.val, callee, evArgs, aBin, aUn, oneCell, cellsOf, Value.cells, evParts, evElems, evAll, fillP, zeros, RetK, resAll, resOf, tupleOf, bnd, intOf?, AFr.keep, RefT.cells, undef, Nat.reduceBEq, Nat.reduceAdd, Nat.reduceMul, Nat.reduceLeDiff, Nat.reduceEqDiff, reduceCtorEq, Int.reduceEq, Int.reduceLT, Int.reduceLE, Int.reduceAdd, Int.reduceSub]
    refine Or.inl (g25 hA g4 (fun N5 σ5 g5 hm5 => ?_))
    have hva := hva.step hm5
    have he := he.step hm5
    have le : (es.map (·.name)).length = es.length := List.length_map _
    have hE : ∀ (i : Nat) (h : i < es.length), (es.map (·.name))[i]? = some es[i].name := fun i h => by rw [List.getElem?_map, List.getElem?_eq_getElem h]; rfl
    simp only [sx, argsFr, Sq, SI.wanted, AFr.ev, AFr.evV, AFr.get, AFr.box, AFr.put, AFr.setb, AV.val, callee, evArgs, aBin, aUn, oneCell, cellsOf, Value.cells, evParts, evElems, evAll, fillP, zeros, RetK, resAll, resOf, tupleOf, bnd, intOf?, AFr.keep, RefT.cells, undef, Nat.reduceBEq, Nat.reduceAdd, Nat.reduceMul, Nat.reduceLeDiff, Nat.reduceEqDiff, reduceCtorEq, Int.reduceEq, Int.reduceLT, Int.reduceLE, Int.reduceAdd, Int.reduceSub, le]
    generalize es.map (·.name) = E at *
    refine Lp_ind (fun i => es.length - i) (fun i f τ => ∃ N, i ≤ es.length ∧ f.keep [2, 7, 8, 9, 119, 120, 121] [8] = some ⟨[(2, .v (.string at_)), (7, .v (.pointer (some ⟨σ.size, 0, none⟩))), (8, .l 8 0), (9, .v (.slice ba es.length ca)),
        (119, .v (.slice be E.length ce)), (120, .v (.int .i64 E.length)), (121, .v (.int .i64 i))], [(8, RefT.cells root)]⟩ ∧ Gr hA σ.size N τ H root es ∧ SlR entK N τ (.slice ba es.length ca) es ∧ SlR strK N τ (.slice be E.length ce) E) ?_ 0 _ _
      ⟨N5, Nat.zero_le _, by rw [le]; rfl, g5, hva, by rw [le] at he ⊢; exact he⟩
    clear hva he g g2 g3 g4 g5 hx hfr hm1 hm2 hm3 hm4 hm5
    rintro i f τ ⟨N6, hi, hkp, g6, hva, he⟩ ih
    rw [St_seq, St_keep hkp]
    clear hkp
    simp only [sx, argsFr, Sq, SI.wanted, AFr.ev, AFr.evV, AFr.get, AFr.box, AFr.put, AFr.setb, AV.val, callee, evArgs, aBin, aUn, oneCell, cellsOf, Value.cells, evParts, evElems, evAll, fillP, zeros, RetK, resAll, resOf, tupleOf, bnd, intOf?, AFr.keep, RefT.cells, undef, Nat.reduceBEq, Nat.reduceAdd, Nat.reduceMul, Nat.reduceLeDiff, Nat.reduceEqDiff, reduceCtorEq, Int.reduceEq, Int.reduceLT, Int.reduceLE, Int.reduceAdd, Int.reduceSub]
    refine Cd_split (fun hc => ?_) (fun hc => ?_)
    · have hj' : i < E.length := by simpa using hc
      have hi' : i < es.length := by omega
      have hw : IntKind.i64.wrap ((i : Int) + 1) = ((i + 1 : Nat) : Int) := wrap_up (by omega)
      have hva0 := hva
      have he0 := he
      obtain ⟨b3, off3, cs3, e3, m3, u3, rfl, hb3, hcut3, hu3⟩ := he.at1 (hE i hi') rfl
      have hu3' : u3 = .string es[i].name := by simpa [strK, Kd.flat] using hu3
      subst hu3'
      simp only [sx, argsFr, Sq, SI.wanted, AFr.ev, AFr.evV, AFr.get, AFr.box, AFr.put, AFr.setb, AV.val, callee, evArgs, aBin, aUn, oneCell, cellsOf, Value.cells, evParts, evElems, evAll, fillP, zeros, RetK, resAll, resOf, tupleOf, bnd, intOf?, AFr.keep, RefT.cells, undef, Nat.reduceBEq, Nat.reduceAdd, Nat.reduceMul, Nat.reduceLeDiff, Nat.reduceEqDiff, reduceCtorEq, Int.reduceEq, Int.reduceLT, Int.reduceLE, Int.reduceAdd, Int.reduceSub, hj', hb3, hcut3]
      refine Or.inl (g26 hA g6 (fun v7 N7 τ7 g7 hv7 hm7 => ?_))
      rw [nthP_yes rfl (List.getElem?_eq_getElem hi')] at hv7
      rw [nthP_yes rfl (List.getElem?_eq_getElem hi')]
      obtain ⟨b7, c7, rfl⟩ := hv7.shape
      simp only [sx, argsFr, Sq, SI.wanted, AFr.ev, AFr.evV, AFr.get, AFr.box, AFr.put, AFr.setb, AV.val, callee, evArgs, aBin, aUn, oneCell, cellsOf, Value.cells, evParts, evElems, evAll, fillP, zeros, RetK, resAll, resOf, tupleOf, bnd, intOf?, AFr.keep, RefT.cells, undef, Nat.reduceBEq, Nat.reduceAdd, Nat.reduceMul, Nat.reduceLeDiff, Nat.reduceEqDiff, reduceCtorEq, Int.reduceEq, Int.reduceLT, Int.reduceLE, Int.reduceAdd, Int.reduceSub]
      refine Or.inl (g28 hA g7 (fun v8 N8 τ8 g8 hv8 hm8 => ?_))
      rw [floor_own hsrt hi'] at hv8
      rw [floor_own hsrt hi']
      obtain ⟨b8, c8, rfl⟩ := hv8.shape
      have hva8 := hva0.step (hm7.trans hm8)
      have he8 := he0.step (hm7.trans hm8)
      obtain ⟨b4, off4, cs4, e4, m4, cells, rfl, hb4, ⟨ve, rfl, hvs⟩, hcut4, _⟩ := hva8.atE (j := 2) rfl (List.getElem?_eq_getElem hi')
      obtain ⟨b9, c9, rfl⟩ := hvs.shape
      have hc4 : cut none cs4 (off4 + i * 2) = _ := hcut4 0 _ rfl
      simp only [sx, argsFr, Sq, SI.wanted, AFr.ev, AFr.evV, AFr.get, AFr.box, AFr.put, AFr.setb, AV.val, callee, evArgs, aBin, aUn, oneCell, cellsOf, Value.cells, evParts, evElems, evAll, fillP, zeros, RetK, resAll, resOf, tupleOf, bnd, intOf?, AFr.keep, RefT.cells, undef, Nat.reduceBEq, Nat.reduceAdd, Nat.reduceMul, Nat.reduceLeDiff, Nat.reduceEqDiff, reduceCtorEq, Int.reduceEq, Int.reduceLT, Int.reduceLE, Int.reduceAdd, Int.reduceSub, hi', hb4, hc4]
      refine ih (i + 1) _ _ (by omega) ⟨N8, by omega, ?_, g8, hva8, he8⟩
      simp only [sx, argsFr, Sq, SI.wanted, AFr.ev, AFr.evV, AFr.get, AFr.box, AFr.put, AFr.setb, AV.val, callee, evArgs, aBin, aUn, oneCell, cellsOf, Value.cells, evParts, evElems, evAll, fillP, zeros, RetK, resAll, resOf, tupleOf, bnd, intOf?, AFr.keep, RefT.cells, undef, Nat.reduceBEq, Nat.reduceAdd, Nat.reduceMul, Nat.reduceLeDiff, Nat.reduceEqDiff, reduceCtorEq, Int.reduceEq, Int.reduceLT, Int.reduceLE, Int.reduceAdd, Int.reduceSub, hw]
    · simp only [sx, argsFr, Sq, SI.wanted, AFr.ev, AFr.evV, AFr.get, AFr.box, AFr.put, AFr.setb, AV.val, callee, evArgs, aBin, aUn, oneCell, cellsOf, Value.cells, evParts, evElems, evAll, fillP, zeros, RetK, resAll, resOf, tupleOf, bnd, intOf?, AFr.keep, RefT.cells, undef, Nat.reduceBEq, Nat.reduceAdd, Nat.reduceMul, Nat.reduceLeDiff, Nat.reduceEqDiff, reduceCtorEq, Int.reduceEq, Int.reduceLT, Int.reduceLE, Int.reduceAdd, Int.reduceSub]
      clear ih hc hi
      by_cases ha : at_ = ⟨#[]⟩
      · simp only [sx, argsFr, Sq, SI.wanted, AFr.ev, AFr.evV, AFr.get, AFr.box, AFr.put, AFr.setb, AV.val, callee, evArgs, aBin, aUn, oneCell, cellsOf, Value.cells, evParts, evElems, evAll, fillP, zeros, RetK, resAll, resOf, tupleOf, bnd, intOf?, AFr.keep, RefT.cells, undef, Nat.reduceBEq, Nat.reduceAdd, Nat.reduceMul, Nat.reduceLeDiff, Nat.reduceEqDiff, reduceCtorEq, Int.reduceEq, Int.reduceLT, Int.reduceLE, Int.reduceAdd, Int.reduceSub, ha]
      simp only [sx, argsFr, Sq, SI.wanted, AFr.ev, AFr.evV, AFr.get, AFr.box, AFr.put, AFr.setb, AV.val, callee, evArgs, aBin, aUn, oneCell, cellsOf, Value.cells, evParts, evElems, evAll, fillP, zeros, RetK, resAll, resOf, tupleOf, bnd, intOf?, AFr.keep, RefT.cells, undef, Nat.reduceBEq, Nat.reduceAdd, Nat.reduceMul, Nat.reduceLeDiff, Nat.reduceEqDiff, reduceCtorEq, Int.reduceEq, Int.reduceLT, Int.reduceLE, Int.reduceAdd, Int.reduceSub, ha]
      refine Or.inl (g24 hA g6 (fun v7 N7 τ7 g7 hv7 hm7 => ?_))
      have hva := hva.step hm7
      obtain ⟨b7, c7, rfl⟩ := hv7.shape
      simp only [sx, argsFr, Sq, SI.wanted, AFr.ev, AFr.evV, AFr.get, AFr.box, AFr.put, AFr.setb, AV.val, callee, evArgs, aBin, aUn, oneCell, cellsOf, Value.cells, evParts, evElems, evAll, fillP, zeros, RetK, resAll, resOf, tupleOf, bnd, intOf?, AFr.keep, RefT.cells, undef, Nat.reduceBEq, Nat.reduceAdd, Nat.reduceMul, Nat.reduceLeDiff, Nat.reduceEqDiff, reduceCtorEq, Int.reduceEq, Int.reduceLT, Int.reduceLE, Int.reduceAdd, Int.reduceSub]
      refine Or.inl (g24 hA g7 (fun v8 N8 τ8 g8 hv8 hm8 => ?_))
      have hva := hva.step hm8
      have hv7 := hv7.step hm8
      obtain ⟨b8, c8, rfl⟩ := hv8.shape
      have hall := side_all hsrt ha
      have k1 := List.length_filter_le (rangeB ⟨#[]⟩ at_) es
      have k2 := List.length_filter_le (rangeB at_ ⟨#[]⟩) es
      generalize es.filter (rangeB ⟨#[]⟩ at_) = L at *
      generalize es.filter (rangeB at_ ⟨#[]⟩) = R at *
      simp only [sx, argsFr, Sq, SI.wanted, AFr.ev, AFr.evV, AFr.get, AFr.box, AFr.put, AFr.setb, AV.val, callee, evArgs, aBin, aUn, oneCell, cellsOf, Value.cells, evParts, evElems, evAll, fillP, zeros, RetK, resAll, resOf, tupleOf, bnd, intOf?, AFr.keep, RefT.cells, undef, Nat.reduceBEq, Nat.reduceAdd, Nat.reduceMul, Nat.reduceLeDiff, Nat.reduceEqDiff, reduceCtorEq, Int.reduceEq, Int.reduceLT, Int.reduceLE, Int.reduceAdd, Int.reduceSub]
      have hN8 : ∀ q ∈ N8, q < τ8.size := g8.lt
      obtain ⟨new, h1, h2, h3⟩ := (hv7.step (Mv.new N8 τ8 (.row [] 2 .W))).src (f := ⟨[(6, .v (.slice b7 L.length c7))], []⟩) (x := .tmp 6) (by simp only [sx, argsFr, Sq, SI.wanted, AFr.ev, AFr.evV, AFr.get, AFr.box, AFr.put, AFr.setb, AV.val, callee, evArgs, aBin, aUn, oneCell, cellsOf, Value.cells, evParts, evElems, evAll, fillP, zeros, RetK, resAll, resOf, tupleOf, bnd, intOf?, AFr.keep, RefT.cells, undef, Nat.reduceBEq, Nat.reduceAdd, Nat.reduceMul, Nat.reduceLeDiff, Nat.reduceEqDiff, reduceCtorEq, Int.reduceEq, Int.reduceLT, Int.reduceLE, Int.reduceAdd, Int.reduceSub]) (e := 2) rfl
      refine Sr_app (K := entK) (D := N8) (N := [τ8.size]) (xs := []) (ys := L) (new := new) (v := .slice (some ⟨τ8.size, 0, none⟩) 0 2) (by simp only [sx, argsFr, Sq, SI.wanted, AFr.ev, AFr.evV, AFr.get, AFr.box, AFr.put, AFr.setb, AV.val, callee, evArgs, aBin, aUn, oneCell, cellsOf, Value.cells, evParts, evElems, evAll, fillP, zeros, RetK, resAll, resOf, tupleOf, bnd, intOf?, AFr.keep, RefT.cells, undef, Nat.reduceBEq, Nat.reduceAdd, Nat.reduceMul, Nat.reduceLeDiff, Nat.reduceEqDiff, reduceCtorEq, Int.reduceEq, Int.reduceLT, Int.reduceLE, Int.reduceAdd, Int.reduceSub])
        (Own.newEmpty rfl hN8) rfl (by decide) (by simpa only [srcOf, sx, argsFr, Sq, SI.wanted, AFr.ev, AFr.evV, AFr.get, AFr.box, AFr.put, AFr.setb, AV.val, callee, evArgs, aBin, aUn, oneCell, cellsOf, Value.cells, evParts, evElems, evAll, fillP, zeros, RetK, resAll, resOf, tupleOf, bnd, intOf?, AFr.keep, RefT.cells, undef, Nat.reduceBEq, Nat.reduceAdd, Nat.reduceMul, Nat.reduceLeDiff, Nat.reduceEqDiff, reduceCtorEq, Int.reduceEq, Int.reduceLT, Int.reduceLE, Int.reduceAdd, Int.reduceSub] using h1) h2 h3 rfl (by unfold maxN; simp only [List.length_nil]; omega) (fun v9 N9 τ9 ho9 hm9 => ?_) (fun b hb => by have := hN8 b hb; simp; omega)
      rw [List.nil_append] at ho9
      have hmm := (Mv.new [] τ8 (.row [] 2 .W)).trans hm9
      have hv8b := hv8.step (hmm.mono (E := N8) (E' := N9 ++ N8) (by simp) (by simp))
      obtain ⟨b9, c9, hv9⟩ := ho9.shape
      simp only [sx, argsFr, Sq, SI.wanted, AFr.ev, AFr.evV, AFr.get, AFr.box, AFr.put, AFr.setb, AV.val, callee, evArgs, aBin, aUn, oneCell, cellsOf, Value.cells, evParts, evElems, evAll, fillP, zeros, RetK, resAll, resOf, tupleOf, bnd, intOf?, AFr.keep, RefT.cells, undef, Nat.reduceBEq, Nat.reduceAdd, Nat.reduceMul, Nat.reduceLeDiff, Nat.reduceEqDiff, reduceCtorEq, Int.reduceEq, Int.reduceLT, Int.reduceLE, Int.reduceAdd, Int.reduceSub, hv9]
      rw [hv9] at ho9
      obtain ⟨new2, f1, f2, f3⟩ := hv8b.src (f := ⟨[(6, .v (.slice b8 R.length c8))], []⟩) (x := .tmp 6) (by simp only [sx, argsFr, Sq, SI.wanted, AFr.ev, AFr.evV, AFr.get, AFr.box, AFr.put, AFr.setb, AV.val, callee, evArgs, aBin, aUn, oneCell, cellsOf, Value.cells, evParts, evElems, evAll, fillP, zeros, RetK, resAll, resOf, tupleOf, bnd, intOf?, AFr.keep, RefT.cells, undef, Nat.reduceBEq, Nat.reduceAdd, Nat.reduceMul, Nat.reduceLeDiff, Nat.reduceEqDiff, reduceCtorEq, Int.reduceEq, Int.reduceLT, Int.reduceLE, Int.reduceAdd, Int.reduceSub]) (e := 2) rfl
      refine Sr_app (K := entK) (D := N8) (N := N9) (xs := L) (ys := R) (new := new2) (by simp only [sx, argsFr, Sq, SI.wanted, AFr.ev, AFr.evV, AFr.get, AFr.box, AFr.put, AFr.setb, AV.val, callee, evArgs, aBin, aUn, oneCell, cellsOf, Value.cells, evParts, evElems, evAll, fillP, zeros, RetK, resAll, resOf, tupleOf, bnd, intOf?, AFr.keep, RefT.cells, undef, Nat.reduceBEq, Nat.reduceAdd, Nat.reduceMul, Nat.reduceLeDiff, Nat.reduceEqDiff, reduceCtorEq, Int.reduceEq, Int.reduceLT, Int.reduceLE, Int.reduceAdd, Int.reduceSub]) ho9 rfl (by decide) (by simpa only [srcOf, sx, argsFr, Sq, SI.wanted, AFr.ev, AFr.evV, AFr.get, AFr.box, AFr.put, AFr.setb, AV.val, callee, evArgs, aBin, aUn, oneCell, cellsOf, Value.cells, evParts, evElems, evAll, fillP, zeros, RetK, resAll, resOf, tupleOf, bnd, intOf?, AFr.keep, RefT.cells, undef, Nat.reduceBEq, Nat.reduceAdd, Nat.reduceMul, Nat.reduceLeDiff, Nat.reduceEqDiff, reduceCtorEq, Int.reduceEq, Int.reduceLT, Int.reduceLE, Int.reduceAdd, Int.reduceSub] using f1) f2 f3 rfl (by unfold maxN; omega)
        (fun v10 N10 τ10 ho10 hm10 => ?_) (fun b hb => Nat.lt_of_lt_of_le (hN8 b hb) hmm.size)
      obtain ⟨b10, c10, hv10⟩ := ho10.shape
      simp only [sx, argsFr, Sq, SI.wanted, AFr.ev, AFr.evV, AFr.get, AFr.box, AFr.put, AFr.setb, AV.val, callee, evArgs, aBin, aUn, oneCell, cellsOf, Value.cells, evParts, evElems, evAll, fillP, zeros, RetK, resAll, resOf, tupleOf, bnd, intOf?, AFr.keep, RefT.cells, undef, Nat.reduceBEq, Nat.reduceAdd, Nat.reduceMul, Nat.reduceLeDiff, Nat.reduceEqDiff, reduceCtorEq, Int.reduceEq, Int.reduceLT, Int.reduceLE, Int.reduceAdd, Int.reduceSub, hv10]
      rw [hv10] at ho10
      refine Or.inl (c22 hA ho10.sl (hva.step ((hmm.trans hm10).any N8)) ?_)
      rw [hall, decide_eq_true rfl]
      simp only [sx, argsFr, Sq, SI.wanted, AFr.ev, AFr.evV, AFr.get, AFr.box, AFr.put, AFr.setb, AV.val, callee, evArgs, aBin, aUn, oneCell, cellsOf, Value.cells, evParts, evElems, evAll, fillP, zeros, RetK, resAll, resOf, tupleOf, bnd, intOf?, AFr.keep, RefT.cells, undef, Nat.reduceBEq, Nat.reduceAdd, Nat.reduceMul, Nat.reduceLeDiff, Nat.reduceEqDiff, reduceCtorEq, Int.reduceEq, Int.reduceLT, Int.reduceLE, Int.reduceAdd, Int.reduceSub]
end
end Go.Proofs.Ytbldkkabkijpgaa

namespace Go.Proofs.Ytbldkkabkijpgaa
open Go.Am Go.ChangeShapes

section
variable {H : Type} {enc : TypeId × Value → H} {w : World}

theorem op_str : Opens enc Try.prog w 9 strK := by
  intro fuel cs d ps ι σ h _ hR
  obtain ⟨s, rfl, _⟩ := DataW.trod_string Try.underlying9 h
  exact ⟨ι, σ, [.string s], s, hR, Inj.le_refl _, Mv.refl _ _, .cons (.string _) .nil, rfl⟩

theorem op_strs : OpensS enc Try.prog w 72 strK := opens_slice Try.underlying72 (by kernel_rfl) (by kernel_rfl) (by decide) op_str
end
end Go.Proofs.Ytbldkkabkijpgaa
