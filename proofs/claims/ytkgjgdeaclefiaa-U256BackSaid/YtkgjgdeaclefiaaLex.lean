/-
  'The order of the text serves', checked fast: masks in place of lists. No program is named here.
-/
import Derived.WalkKit
import Derived.Still
namespace Go.Flo
open Go

def setOf (l : List Nat) : Nat := l.foldl (fun s t => s ||| 2 ^ t) 0
theorem setOf_spec {l : List Nat} {t : Nat} (h : t ∈ l) : (setOf l).testBit t = true := by
  unfold setOf
  have key : ∀ (l : List Nat) (s : Nat), (s.testBit t = true ∨ t ∈ l) → (l.foldl (fun s t => s ||| 2 ^ t) s).testBit t = true := by
    intro l
    induction l with
    | nil => intro s h; rcases h with h | h; exact h; cases h
    | cons x l ih =>
      intro s h
      refine ih _ ?_
      rw [Nat.testBit_or]
      rcases h with h | h
      · exact .inl (by rw [h]; rfl)
      · rcases List.mem_cons.1 h with rfl | h
        · exact .inl (by rw [Nat.testBit_two_pow_self, Bool.or_true])
        · exact .inr h
  exact key l 0 (.inr h)

def edgesOf (md : Region.Mode) (o : Oper) : Nat := o.after.toList.foldl (fun s e => if Region.binds md e then s ||| 2 ^ e.on else s) 0
theorem edgesOf_spec {md : Region.Mode} {o : Oper} {i : Nat} (h : (edgesOf md o).testBit i = true) : ∃ e ∈ o.after, Region.binds md e = true ∧ e.on = i := by
  unfold edgesOf at h
  have key : ∀ (l : List Edge) (s : Nat), (l.foldl (fun s e => if Region.binds md e then s ||| 2 ^ e.on else s) s).testBit i = true → s.testBit i = true ∨ ∃ e ∈ l, Region.binds md e = true ∧ e.on = i := by
    intro l
    induction l with
    | nil => intro s h; exact .inl h
    | cons e l ih =>
      intro s h
      rcases ih _ h with h1 | ⟨e', he', r⟩
      · simp only at h1
        by_cases hb : Region.binds md e = true
        · rw [if_pos hb, Nat.testBit_or, Bool.or_eq_true] at h1
          rcases h1 with h1 | h1
          · exact .inl h1
          · refine .inr ⟨e, by simp, hb, ?_⟩
            rw [Nat.testBit_two_pow] at h1
            simpa using h1
        · rw [if_neg hb] at h1; exact .inl h1
      · exact .inr ⟨e', by simp [he'], r⟩
  rcases key _ _ h with h1 | ⟨e, he, r⟩
  · simp at h1
  · exact ⟨e, by simpa using he, r⟩

def apartQ (di : Option Tmp) (li : Nat) (dj : Option Tmp) (lj : Nat) : Bool :=
  (match di with | some d => !lj.testBit d && dj != some d | none => true) && (match dj with | some d => !li.testBit d | none => true)

def lexGo (md : Region.Mode) (ops : Array Oper) : Nat → List (Nat × Option Tmp × Nat) → List Oper → Bool
  | _, _, [] => true
  | k, acc, o :: r => (o.after.all fun e => !Region.binds md e || Nat.blt e.on k) && (acc.all fun x => (edgesOf md o).testBit x.1 || apartQ x.2.1 x.2.2 o.dst (setOf (o.looksAt ops))) && lexGo md ops (k + 1) ((k, o.dst, setOf (o.looksAt ops)) :: acc) r
def lexQ (md : Region.Mode) (l : List Oper) : Bool := Region.noSelect l.toArray && lexGo md l.toArray 0 [] l

theorem apart_of_Q {ops : Array Oper} {x y : Oper} (h : apartQ x.dst (setOf (x.looksAt ops)) y.dst (setOf (y.looksAt ops)) = true) : x.apart ops y = true := by
  unfold apartQ at h
  unfold Oper.apart
  rw [Bool.and_eq_true] at h ⊢
  obtain ⟨h1, h2⟩ := h
  constructor
  · cases hx : x.dst with
    | none => rfl
    | some d =>
      rw [hx] at h1
      simp only [Bool.and_eq_true, Bool.not_eq_true'] at h1 ⊢
      refine ⟨?_, h1.2⟩
      cases hc : (y.looksAt ops).contains d with
      | false => rfl
      | true => rw [setOf_spec (List.contains_iff_mem.1 hc)] at h1; exact h1.1
  · cases hy : y.dst with
    | none => rfl
    | some d =>
      rw [hy] at h2
      simp only [Bool.not_eq_true'] at h2 ⊢
      cases hc : (x.looksAt ops).contains d with
      | false => rfl
      | true => rw [setOf_spec (List.contains_iff_mem.1 hc)] at h2; exact h2

/-- What the walk along the list has seen. -/
theorem lexGo_spec {md : Region.Mode} {ops : Array Oper} : ∀ (l : List Oper) (k : Nat) (acc : List (Nat × Option Tmp × Nat)), (∀ j, l[j]? = ops[k + j]?) →
    (∀ i o, i < k → ops[i]? = some o → (i, o.dst, setOf (o.looksAt ops)) ∈ acc) → lexGo md ops k acc l = true →
    (∀ j o, k ≤ j → ops[j]? = some o → ∀ e ∈ o.after, Region.binds md e = true → e.on < j) ∧
    (∀ i j oi oj, i < j → k ≤ j → ops[i]? = some oi → ops[j]? = some oj → (∃ e ∈ oj.after, Region.binds md e = true ∧ e.on = i) ∨ oi.apart ops oj = true)
  | [], k, acc, hl, _, _ => by
    have hno : ∀ j, k ≤ j → ops[j]? = none := fun j hj => by have := hl (j - k); simpa [show k + (j - k) = j by omega] using this.symm
    exact ⟨fun j o hj ho => (by rw [hno j hj] at ho; cases ho), fun i j oi oj _ hj _ ho => (by rw [hno j hj] at ho; cases ho)⟩
  | o :: r, k, acc, hl, ha, h => by
    have h0 : ops[k]? = some o := by simpa using (hl 0).symm
    simp only [lexGo, Bool.and_eq_true] at h
    obtain ⟨⟨h1, h2⟩, h3⟩ := h
    obtain ⟨p, q⟩ := lexGo_spec r (k + 1) ((k, o.dst, setOf (o.looksAt ops)) :: acc) (fun j => by have := hl (j + 1); simpa [Nat.add_assoc, Nat.add_comm 1 j] using this)
      (fun i oi hi hoi => by
        rcases Nat.lt_or_ge i k with h' | h'
        · exact List.mem_cons_of_mem _ (ha i oi h' hoi)
        · have : i = k := by omega
          subst this
          rw [h0] at hoi
          cases hoi
          exact List.mem_cons_self) h3
    refine ⟨fun j oj hj hoj e he hb => ?_, fun i j oi oj hij hj hoi hoj => ?_⟩
    · rcases Nat.lt_or_ge k j with h' | h'
      · exact p j oj h' hoj e he hb
      · have : j = k := by omega
        subst this
        rw [h0] at hoj
        cases hoj
        have := Array.all_eq_true'.1 h1 e he
        rw [hb] at this
        simpa [Nat.blt_eq] using this
    · rcases Nat.lt_or_ge k j with h' | h'
      · exact q i j oi oj hij h' hoi hoj
      · have : j = k := by omega
        subst this
        rw [h0] at hoj
        cases hoj
        have := List.all_eq_true.1 h2 _ (ha i oi hij hoi)
        rw [Bool.or_eq_true] at this
        rcases this with h | h
        · exact .inl (edgesOf_spec h)
        · exact .inr (apart_of_Q h)

theorem lexFrom_of {md : Region.Mode} {ops : Array Oper} (p : ∀ j o, ops[j]? = some o → ∀ e ∈ o.after, Region.binds md e = true → e.on < j)
    (q : ∀ i j oi oj, i < j → ops[i]? = some oi → ops[j]? = some oj → (∃ e ∈ oj.after, Region.binds md e = true ∧ e.on = i) ∨ oi.apart ops oj = true) :
    ∀ (n k : Nat) (listed : Array Bool), k + n = ops.size → listed.size = ops.size → (∀ i, i < ops.size → listed.getD i true = decide (i < k)) → Region.lexFrom md ops n k listed = true
  | 0, k, listed, hk, hs, hl => by
    simp only [Region.lexFrom, List.isEmpty_iff]
    rw [List.eq_nil_iff_forall_not_mem]
    intro j hj
    obtain ⟨h1, o, ho, _⟩ := mem_ready.1 hj
    have hjs : j < ops.size := by
      rcases Nat.lt_or_ge j ops.size with h' | h'
      · exact h'
      · simp [Array.getElem?_eq_none h'] at ho
    rw [hl j hjs] at h1
    simp at h1
    omega
  | n + 1, k, listed, hk, hs, hl => by
    have hks : k < ops.size := by omega
    have ho : ops[k]? = some ops[k] := by simp [hks]
    have hf : ∀ i, i < ops.size → listed.getD i false = decide (i < k) := fun i hi => by
      have := hl i hi
      simp [show i < listed.size by omega] at this ⊢
      exact this
    simp only [Region.lexFrom, Bool.and_eq_true]
    refine ⟨⟨?_, ?_⟩, lexFrom_of p q n (k + 1) _ (by omega) (by simpa using hs) (fun i hi => ?_)⟩
    · rw [List.contains_iff_mem, mem_ready]
      refine ⟨by rw [hl k hks]; simp, _, ho, fun e he hb => ?_⟩
      have := p k _ ho e he hb
      rw [hf _ (by omega)]
      simpa using this
    · unfold Region.free
      simp only [ho, List.all_eq_true, List.mem_range, Bool.or_eq_true]
      intro j hj
      by_cases hjk : j = k
      · exact .inl (.inl (by simp [hjk]))
      rcases Nat.lt_or_ge j k with h' | h'
      · exact .inl (.inr (by rw [hl j hj]; simpa using h'))
      · have hoj : ops[j]? = some ops[j] := by simp [hj]
        refine .inr ?_
        rw [hoj]
        simp only [Bool.or_eq_true]
        rcases q k j _ _ (by omega) ho hoj with ⟨e, he, hb, hon⟩ | h
        · exact .inl (Array.any_eq_true'.2 ⟨e, he, by simp [hb, hon]⟩)
        · exact .inr h
    · by_cases hik : k = i
      · subst hik
        simp [hs, hks]
      · have := hl i hi
        rw [Array.getD_eq_getD_getElem?] at this ⊢
        rw [Array.getElem?_setIfInBounds, if_neg hik, this]
        congr 1
        simp
        omega

theorem lexB_of_Q {md : Region.Mode} {l : List Oper} (h : lexQ md l = true) : Region.lexB md l.toArray = true := by
  unfold lexQ at h
  unfold Region.lexB
  rw [Bool.and_eq_true] at h ⊢
  refine ⟨h.1, ?_⟩
  obtain ⟨p, q⟩ := lexGo_spec l 0 [] (fun j => by simp) (fun i o hi => by omega) h.2
  refine lexFrom_of (fun j o ho => p j o (Nat.zero_le _) ho) (fun i j oi oj hij => q i j oi oj hij (Nat.zero_le _)) _ 0 _ (by simp) (by simp) (fun i hi => ?_)
  simp at hi
  simp [hi]
end Go.Flo
