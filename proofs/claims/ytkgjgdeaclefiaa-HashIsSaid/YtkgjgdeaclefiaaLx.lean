import Derived.WalkKit
import Derived.Still
import Derived.Deep.Quiet
import Derived.Below
import Derived.KernelRfl
import Derived.Laws.Rows
import Derived.Lib.Hide
import Derived.Laws.AppendOwn
import Derived.Lib.OthersKept
import Derived.Deep.WholeRow
import Derived.OrdersIn
import Derived.RangeFuncCalls

/-! 'The order of the text serves', checked fast: masks in place of lists. No program is named here. -/
namespace Go.Flo
open Go

def setOf (l : List Nat) : Nat := l.foldl (fun s t => s ||| 2 ^ t) 0
theorem setOf_spec {l : List Nat} {t : Nat} (h : t ∈ l) : (setOf l).testBit t = true := by
  unfold setOf
  have key : ∀ (l : List Nat) (s : Nat), (s.testBit t = true ∨ t ∈ l) → (l.foldl (fun s t => s ||| 2 ^ t) s).testBit t = true := by
    intro l
    induction l with
    | nil => intro s h; rcases h with h | h; exact h; cases h
    | cons x l ih =>
      intro s h
      refine ih _ ?_
      rw [Nat.testBit_or]
      rcases h with h | h
      · exact .inl (by rw [h]; rfl)
      · rcases List.mem_cons.1 h with rfl | h
        · exact .inl (by rw [Nat.testBit_two_pow_self, Bool.or_true])
        · exact .inr h
  exact key l 0 (.inr h)

def edgesOf (md : Region.Mode) (o : Oper) : Nat := o.after.toList.foldl (fun s e => if Region.binds md e then s ||| 2 ^ e.on else s) 0
theorem edgesOf_spec {md : Region.Mode} {o : Oper} {i : Nat} (h : (edgesOf md o).testBit i = true) : ∃ e ∈ o.after, Region.binds md e = true ∧ e.on = i := by
  unfold edgesOf at h
  have key : ∀ (l : List Edge) (s : Nat), (l.foldl (fun s e => if Region.binds md e then s ||| 2 ^ e.on else s) s).testBit i = true → s.testBit i = true ∨ ∃ e ∈ l, Region.binds md e = true ∧ e.on = i := by
    intro l
    induction l with
    | nil => intro s h; exact .inl h
    | cons e l ih =>
      intro s h
      rcases ih _ h with h1 | ⟨e', he', r⟩
      · simp only at h1
        by_cases hb : Region.binds md e = true
        · rw [if_pos hb, Nat.testBit_or, Bool.or_eq_true] at h1
          rcases h1 with h1 | h1
          · exact .inl h1
          · refine .inr ⟨e, by simp, hb, ?_⟩
            rw [Nat.testBit_two_pow] at h1
            simpa using h1
        · rw [if_neg hb] at h1; exact .inl h1
      · exact .inr ⟨e', by simp [he'], r⟩
  rcases key _ _ h with h1 | ⟨e, he, r⟩
  · simp at h1
  · exact ⟨e, by simpa using he, r⟩

def apartQ (di : Option Tmp) (li : Nat) (dj : Option Tmp) (lj : Nat) : Bool :=
  (match di with | some d => !lj.testBit d && dj != some d | none => true) && (match dj with | some d => !li.testBit d | none => true)

def lexGo (md : Region.Mode) (ops : Array Oper) : Nat → List (Nat × Option Tmp × Nat) → List Oper → Bool
  | _, _, [] => true
  | k, acc, o :: r => (o.after.all fun e => !Region.binds md e || Nat.blt e.on k) && (acc.all fun x => (edgesOf md o).testBit x.1 || apartQ x.2.1 x.2.2 o.dst (setOf (o.looksAt ops))) && lexGo md ops (k + 1) ((k, o.dst, setOf (o.looksAt ops)) :: acc) r
def lexQ (md : Region.Mode) (l : List Oper) : Bool := Region.noSelect l.toArray && lexGo md l.toArray 0 [] l

theorem apart_of_Q {ops : Array Oper} {x y : Oper} (h : apartQ x.dst (setOf (x.looksAt ops)) y.dst (setOf (y.looksAt ops)) = true) : x.apart ops y = true := by
  unfold apartQ at h
  unfold Oper.apart
  rw [Bool.and_eq_true] at h ⊢
  obtain ⟨h1, h2⟩ := h
  constructor
  · cases hx : x.dst with
    | none => rfl
    | some d =>
      rw [hx] at h1
      simp only [Bool.and_eq_true, Bool.not_eq_true'] at h1 ⊢
      refine ⟨?_, h1.2⟩
      cases hc : (y.looksAt ops).contains d with
      | false => rfl
      | true => rw [setOf_spec (List.contains_iff_mem.1 hc)] at h1; exact h1.1
  · cases hy : y.dst with
    | none => rfl
    | some d =>
      rw [hy] at h2
      simp only [Bool.not_eq_true'] at h2 ⊢
      cases hc : (x.looksAt ops).contains d with
      | false => rfl
      | true => rw [setOf_spec (List.contains_iff_mem.1 hc)] at h2; exact h2

/-- What the walk along the list has seen. -/
theorem lexGo_spec {md : Region.Mode} {ops : Array Oper} : ∀ (l : List Oper) (k : Nat) (acc : List (Nat × Option Tmp × Nat)), (∀ j, l[j]? = ops[k + j]?) →
    (∀ i o, i < k → ops[i]? = some o → (i, o.dst, setOf (o.looksAt ops)) ∈ acc) → lexGo md ops k acc l = true →
    (∀ j o, k ≤ j → ops[j]? = some o → ∀ e ∈ o.after, Region.binds md e = true → e.on < j) ∧
    (∀ i j oi oj, i < j → k ≤ j → ops[i]? = some oi → ops[j]? = some oj → (∃ e ∈ oj.after, Region.binds md e = true ∧ e.on = i) ∨ oi.apart ops oj = true)
  | [], k, acc, hl, _, _ => by
    have hno : ∀ j, k ≤ j → ops[j]? = none := fun j hj => by have := hl (j - k); simpa [show k + (j - k) = j by omega] using this.symm
    exact ⟨fun j o hj ho => (by rw [hno j hj] at ho; cases ho), fun i j oi oj _ hj _ ho => (by rw [hno j hj] at ho; cases ho)⟩
  | o :: r, k, acc, hl, ha, h => by
    have h0 : ops[k]? = some o := by simpa using (hl 0).symm
    simp only [lexGo, Bool.and_eq_true] at h
    obtain ⟨⟨h1, h2⟩, h3⟩ := h
    obtain ⟨p, q⟩ := lexGo_spec r (k + 1) ((k, o.dst, setOf (o.looksAt ops)) :: acc) (fun j => by have := hl (j + 1); simpa [Nat.add_assoc, Nat.add_comm 1 j] using this)
      (fun i oi hi hoi => by
        rcases Nat.lt_or_ge i k with h' | h'
        · exact List.mem_cons_of_mem _ (ha i oi h' hoi)
        · have : i = k := by omega
          subst this
          rw [h0] at hoi
          cases hoi
          exact List.mem_cons_self) h3
    refine ⟨fun j oj hj hoj e he hb => ?_, fun i j oi oj hij hj hoi hoj => ?_⟩
    · rcases Nat.lt_or_ge k j with h' | h'
      · exact p j oj h' hoj e he hb
      · have : j = k := by omega
        subst this
        rw [h0] at hoj
        cases hoj
        have := Array.all_eq_true'.1 h1 e he
        rw [hb] at this
        simpa [Nat.blt_eq] using this
    · rcases Nat.lt_or_ge k j with h' | h'
      · exact q i j oi oj hij h' hoi hoj
      · have : j = k := by omega
        subst this
        rw [h0] at hoj
        cases hoj
        have := List.all_eq_true.1 h2 _ (ha i oi hij hoi)
        rw [Bool.or_eq_true] at this
        rcases this with h | h
        · exact .inl (edgesOf_spec h)
        · exact .inr (apart_of_Q h)

theorem lexFrom_of {md : Region.Mode} {ops : Array Oper} (p : ∀ j o, ops[j]? = some o → ∀ e ∈ o.after, Region.binds md e = true → e.on < j)
    (q : ∀ i j oi oj, i < j → ops[i]? = some oi → ops[j]? = some oj → (∃ e ∈ oj.after, Region.binds md e = true ∧ e.on = i) ∨ oi.apart ops oj = true) :
    ∀ (n k : Nat) (listed : Array Bool), k + n = ops.size → listed.size = ops.size → (∀ i, i < ops.size → listed.getD i true = decide (i < k)) → Region.lexFrom md ops n k listed = true
  | 0, k, listed, hk, hs, hl => by
    simp only [Region.lexFrom, List.isEmpty_iff]
    rw [List.eq_nil_iff_forall_not_mem]
    intro j hj
    obtain ⟨h1, o, ho, _⟩ := mem_ready.1 hj
    have hjs : j < ops.size := by
      rcases Nat.lt_or_ge j ops.size with h' | h'
      · exact h'
      · simp [Array.getElem?_eq_none h'] at ho
    rw [hl j hjs] at h1
    simp at h1
    omega
  | n + 1, k, listed, hk, hs, hl => by
    have hks : k < ops.size := by omega
    have ho : ops[k]? = some ops[k] := by simp [hks]
    have hf : ∀ i, i < ops.size → listed.getD i false = decide (i < k) := fun i hi => by
      have := hl i hi
      simp [show i < listed.size by omega] at this ⊢
      exact this
    simp only [Region.lexFrom, Bool.and_eq_true]
    refine ⟨⟨?_, ?_⟩, lexFrom_of p q n (k + 1) _ (by omega) (by simpa using hs) (fun i hi => ?_)⟩
    · rw [List.contains_iff_mem, mem_ready]
      refine ⟨by rw [hl k hks]; simp, _, ho, fun e he hb => ?_⟩
      have := p k _ ho e he hb
      rw [hf _ (by omega)]
      simpa using this
    · unfold Region.free
      simp only [ho, List.all_eq_true, List.mem_range, Bool.or_eq_true]
      intro j hj
      by_cases hjk : j = k
      · exact .inl (.inl (by simp [hjk]))
      rcases Nat.lt_or_ge j k with h' | h'
      · exact .inl (.inr (by rw [hl j hj]; simpa using h'))
      · have hoj : ops[j]? = some ops[j] := by simp [hj]
        refine .inr ?_
        rw [hoj]
        simp only [Bool.or_eq_true]
        rcases q k j _ _ (by omega) ho hoj with ⟨e, he, hb, hon⟩ | h
        · exact .inl (Array.any_eq_true'.2 ⟨e, he, by simp [hb, hon]⟩)
        · exact .inr h
    · by_cases hik : k = i
      · subst hik
        simp [hs, hks]
      · have := hl i hi
        rw [Array.getD_eq_getD_getElem?] at this ⊢
        rw [Array.getElem?_setIfInBounds, if_neg hik, this]
        congr 1
        simp
        omega

theorem lexB_of_Q {md : Region.Mode} {l : List Oper} (h : lexQ md l = true) : Region.lexB md l.toArray = true := by
  unfold lexQ at h
  unfold Region.lexB
  rw [Bool.and_eq_true] at h ⊢
  refine ⟨h.1, ?_⟩
  obtain ⟨p, q⟩ := lexGo_spec l 0 [] (fun j => by simp) (fun i o hi => by omega) h.2
  refine lexFrom_of (fun j o ho => p j o (Nat.zero_le _) ho) (fun i j oi oj hij => q i j oi oj hij (Nat.zero_le _)) _ 0 _ (by simp) (by simp) (fun i hi => ?_)
  simp at hi
  simp [hi]
end Go.Flo

/-! A region that draws its order: ONE walk in the order of the text serves every order, if each two operations that may change places are such that one of them hands back ONE value in every world of a class Z ('free'), or both only read ('still'). All other operations ('mover') must stand in a chain. No program is named here. -/
namespace Go.Flo
open Go

/-! ### Who waits for whom -/
section
variable {ops : Array Oper} {md : Region.Mode}

/-- j waits for i: by an edge, or over others. -/
inductive Waits (md : Region.Mode) (ops : Array Oper) (i : Nat) : Nat → Prop
  | edge {j : Nat} {o : Oper} {e : Edge} : ops[j]? = some o → e ∈ o.after → Region.binds md e = true → e.on = i → Waits md ops i j
  | over {j k : Nat} {o : Oper} {e : Edge} : ops[j]? = some o → e ∈ o.after → Region.binds md e = true → e.on = k → Waits md ops i k → Waits md ops i j

/-- What has come up has come up behind all that it waits for. -/
def Shut (md : Region.Mode) (ops : Array Oper) (listed : Array Bool) : Prop :=
  ∀ j o, ops[j]? = some o → listed.getD j false = true → ∀ e ∈ o.after, Region.binds md e = true → listed.getD e.on false = true

theorem Waits.listed {i j : Nat} {listed : Array Bool} (h : Waits md ops i j) (hs : Shut md ops listed) (hj : listed.getD j false = true) : listed.getD i false = true := by
  induction h with
  | edge ho he hb hi => have := hs _ _ ho hj _ he hb; rwa [hi] at this
  | over ho he hb hi _ ih => exact ih (by have := hs _ _ ho hj _ he hb; rwa [hi] at this)

theorem getD_mix {listed : Array Bool} {i : Nat} (h : listed.getD i true = false) : listed.getD i false = false := by
  rcases Nat.lt_or_ge i listed.size with h' | h'
  · simp [h'] at h ⊢; exact h
  · simp [h'] at h

theorem Waits.not_ready {i j : Nat} {listed : Array Bool} (h : Waits md ops i j) (hs : Shut md ops listed) (hi : listed.getD i true = false) (hj : j ∈ Region.ready md ops listed) : False := by
  obtain ⟨_, oj, hoj, hall⟩ := mem_ready.1 hj
  have hi' := getD_mix hi
  cases h with
  | edge ho he hb hon =>
    rw [hoj] at ho; cases ho
    have := hall _ he hb
    rw [hon, hi'] at this; cases this
  | over ho he hb hon hw =>
    rw [hoj] at ho; cases ho
    have h1 := hall _ he hb
    rw [hon] at h1
    have := hw.listed hs h1
    rw [hi'] at this; cases this

theorem Shut.set {listed : Array Bool} {i : Nat} (hs : Shut md ops listed) (hi : i ∈ Region.ready md ops listed) : Shut md ops (listed.setIfInBounds i true) := by
  intro j o ho hj e he hb
  by_cases hji : i = j
  · subst hji
    obtain ⟨_, oj, hoj, hall⟩ := mem_ready.1 hi
    rw [hoj] at ho; cases ho
    exact getD_set_true (hall _ he hb)
  · rw [getD_set_ne false hji] at hj
    exact getD_set_true (hs j o ho hj e he hb)

/-- The masks of those that each waits for, in a row. -/
def maskOf (md : Region.Mode) (acc : List Nat) (o : Oper) : Nat :=
  o.after.toList.foldl (fun s e => if Region.binds md e then s ||| (2 ^ e.on ||| acc.getD e.on 0) else s) 0
def masks (md : Region.Mode) : List Nat → List Oper → List Nat
  | acc, [] => acc
  | acc, o :: r => masks md (acc ++ [maskOf md acc o]) r

theorem maskOf_spec {acc : List Nat} {o : Oper} {i : Nat} (h : (maskOf md acc o).testBit i = true) :
    ∃ e ∈ o.after, Region.binds md e = true ∧ (e.on = i ∨ (acc.getD e.on 0).testBit i = true) := by
  unfold maskOf at h
  have key : ∀ (l : List Edge) (s : Nat), (l.foldl (fun s e => if Region.binds md e then s ||| (2 ^ e.on ||| acc.getD e.on 0) else s) s).testBit i = true →
      s.testBit i = true ∨ ∃ e ∈ l, Region.binds md e = true ∧ (e.on = i ∨ (acc.getD e.on 0).testBit i = true) := by
    intro l
    induction l with
    | nil => intro s h; exact .inl h
    | cons e l ih =>
      intro s h
      rcases ih _ h with h1 | ⟨e', he', r⟩
      · simp only at h1
        by_cases hb : Region.binds md e = true
        · rw [if_pos hb, Nat.testBit_or, Nat.testBit_or, Bool.or_eq_true, Bool.or_eq_true] at h1
          rcases h1 with h1 | h1 | h1
          · exact .inl h1
          · refine .inr ⟨e, by simp, hb, .inl ?_⟩
            rw [Nat.testBit_two_pow] at h1
            simpa using h1
          · exact .inr ⟨e, by simp, hb, .inr h1⟩
        · rw [if_neg hb] at h1; exact .inl h1
      · exact .inr ⟨e', by simp [he'], r⟩
  rcases key _ _ h with h1 | ⟨e, he, r⟩
  · simp at h1
  · exact ⟨e, by simpa using he, r⟩

theorem masks_spec : ∀ (l : List Oper) (acc : List Nat), (∀ j, j < l.length → ops[acc.length + j]? = l[j]?) →
    (∀ j i, (acc.getD j 0).testBit i = true → Waits md ops i j) → ∀ j i, ((masks md acc l).getD j 0).testBit i = true → Waits md ops i j
  | [], _, _, ha => ha
  | o :: r, acc, hl, ha => by
    refine masks_spec r _ (fun j hj => ?_) (fun j i h => ?_)
    · have := hl (j + 1) (by simpa using hj)
      simp only [List.getElem?_cons_succ] at this
      rw [← this]
      congr 1
      simp; omega
    · have ho : ops[acc.length]? = some o := by simpa using hl 0 (by simp)
      rcases Nat.lt_trichotomy j acc.length with hj | hj | hj
      · rw [List.getD_eq_getElem?_getD, List.getElem?_append_left hj, ← List.getD_eq_getElem?_getD] at h
        exact ha j i h
      · subst hj
        rw [List.getD_eq_getElem?_getD, List.getElem?_append_right (Nat.le_refl _), Nat.sub_self] at h
        simp only [List.getElem?_cons_zero, Option.getD_some] at h
        obtain ⟨e, he, hb, h1 | h1⟩ := maskOf_spec h
        · exact .edge ho he hb h1
        · exact .over ho he hb rfl (ha _ _ h1)
      · rw [List.getD_eq_getElem?_getD, List.getElem?_eq_none (by simp; omega)] at h
        simp at h

/-- May two of these modes change places? 0: it moves the world · 1: it hands back one value in every world of the class · 2: it hands back a value and leaves the world. -/
def swaps : Nat → Nat → Bool
  | 1, _ => true
  | _, 1 => true
  | 2, 2 => true
  | _, _ => false

/-- An operation that hands back a value (or nothing), no call of a Go function. -/
def valued : Op → Bool
  | .move _ | .assign _ | .pick .. | .build .. | .load .. | .binOp .. | .unOp .. | .convert .. | .slice .. | .fieldAddr .. | .field .. | .indexAddr .. | .index .. | .lookup .. | .extract .. | .makeInterface .. | .typeAssert .. => true
  | .call { callee := .builtin .len, .. } | .call { callee := .builtin .cap, .. } | .call { callee := .builtin .min, .. } | .call { callee := .builtin .max, .. } => true
  | _ => false

def modeAt (ms : List Nat) (i : Nat) : Nat := ms.getD i 0

def pairsB (mk : List Nat) (ms : List Nat) : Nat → Bool
  | 0 => true
  | j + 1 => (List.range j).all (fun i => swaps (modeAt ms i) (modeAt ms j) || (mk.getD j 0).testBit i) && pairsB mk ms j

def mixB (md : Region.Mode) (l : List Oper) (ms : List Nat) : Bool :=
  lexQ md l && (ms.length == l.length) && pairsB (masks md [] l) ms l.length && (l.zip ms).all fun x => x.2 != 1 || valued x.1.op

theorem pairsB_spec {mk ms : List Nat} : ∀ {n : Nat}, pairsB mk ms n = true → ∀ j i, j < n → i < j → swaps (modeAt ms i) (modeAt ms j) = true ∨ (mk.getD j 0).testBit i = true
  | 0, _, j, i, hj, _ => by omega
  | n + 1, h, j, i, hj, hi => by
    simp only [pairsB, Bool.and_eq_true, List.all_eq_true, List.mem_range, Bool.or_eq_true] at h
    by_cases hjn : j = n
    · subst hjn; exact h.1 i hi
    · exact pairsB_spec h.2 j i (by omega) hi
end

/-! ### What one operation does -/
section
variable {P : Program} {ops : Array Oper} {md : Region.Mode} {Z : World → Prop}

/-- It leads to a value, nothing, or a call that returns. -/
def leads (P : Program) (o : Oper) (a : Act) (w : World) (R : Value → World → Prop) : Prop :=
  match (execOp a.eval o).run P w with
  | .ok (.value v) w' => R v w'
  | .ok .skip w' => R undef w'
  | .ok (.enter f args) w' => Calls P f args w' fun e w'' => ∃ v, e = .returned v ∧ R v w''
  | .ok (.row row args) w' => Rows P row args w' R
  | _ => False

/-- It hands back v, the world as it was. -/
def keeps (P : Program) (o : Oper) (a : Act) (w : World) (v : Value) : Prop :=
  (execOp a.eval o).run P w = .ok (.value v) w ∨ ((execOp a.eval o).run P w = .ok .skip w ∧ v = undef)

theorem keeps_inj {o : Oper} {a : Act} {w : World} {v u : Value} (h : keeps P o a w v) (h' : keeps P o a w u) : v = u := by
  rcases h with h | ⟨h, rfl⟩ <;> rcases h' with h' | ⟨h', rfl⟩ <;> rw [h] at h' <;> first | rfl | cases h'
  all_goals rfl

/-- One operation, in its mode. -/
def StIn (P : Program) (Z : World → Prop) (m : Nat) (o : Oper) (a : Act) (w : World) (R : Value → World → Prop) : Prop :=
  match m with
  | 1 => ∃ v, (∀ w', Z w' → keeps P o a w' v) ∧ R v w
  | 2 => ∃ v, keeps P o a w v ∧ R v w
  | _ => leads P o a w fun v w' => Z w' ∧ R v w'
def St (P : Program) (ops : Array Oper) (Z : World → Prop) (m : Nat) (o : Oper) (a : Act) (w : World) (R : Value → World → Prop) : Prop :=
  if Region.wanted o (yielded ops a.tmps) then StIn P Z m o a w R else R undef w

theorem leads_mono {o : Oper} {a : Act} {w : World} {R R' : Value → World → Prop} (h : ∀ v w, R v w → R' v w) (hh : leads P o a w R) : leads P o a w R' := by
  unfold leads at *
  generalize (execOp a.eval o).run P w = r at *
  cases r with
  | ok n w' =>
    cases n <;> simp only at hh ⊢
    case enter f args => exact hh.mono fun e w'' ⟨v, he, hr⟩ => ⟨v, he, h _ _ hr⟩
    case row row args => exact hh.mono fun v w'' hr => h _ _ hr
    all_goals first | exact h _ _ hh | exact hh
  | halt x w' => exact hh

theorem leads_some {o : Oper} {a : Act} {w : World} {R : Value → World → Prop} (hh : leads P o a w R) : ∃ v w', R v w' := by
  unfold leads at hh
  generalize (execOp a.eval o).run P w = r at *
  cases r with
  | ok n w' =>
    cases n <;> simp only at hh
    case enter f args => obtain ⟨e, w'', _, ⟨v, _, hr⟩, _⟩ := hh []; exact ⟨v, w'', hr⟩
    case row row args => obtain ⟨v, w'', hr, _⟩ := hh default []; exact ⟨v, w'', hr⟩
    all_goals first | exact ⟨_, _, hh⟩ | exact hh.elim
  | halt x w' => exact hh.elim

theorem St_mono {m : Nat} {o : Oper} {a : Act} {w : World} {R R' : Value → World → Prop} (hw : Z w) (h : ∀ v w, Z w → R v w → R' v w) (hh : St P ops Z m o a w R) : St P ops Z m o a w R' := by
  unfold St at *
  split
  · rename_i hq
    rw [if_pos hq] at hh
    match m, hh with
    | 1, ⟨v, h1, h2⟩ => exact ⟨v, h1, h _ _ hw h2⟩
    | 2, ⟨v, h1, h2⟩ => exact ⟨v, h1, h _ _ hw h2⟩
    | 0, hh => exact leads_mono (fun v w' hz => ⟨hz.1, h _ _ hz.1 hz.2⟩) hh
    | n + 3, hh => exact leads_mono (fun v w' hz => ⟨hz.1, h _ _ hz.1 hz.2⟩) hh
  · rename_i hq
    rw [if_neg hq] at hh
    exact h _ _ hw hh

theorem St_put {m : Nat} {o : Oper} {a : Act} {w : World} {R : Value → World → Prop} {d : Option Tmp} {u : Value} (hs : ∀ cs b, o.op ≠ .select cs b) (h : ∀ t, d = some t → t ∉ o.looksAt ops) :
    St P ops Z m o (a.put d u) w R ↔ St P ops Z m o a w R := by
  unfold St StIn keeps leads
  rw [wanted_put o a d u h, execOp_put o hs a d u h]

/-- **TWO OPERATIONS CHANGE PLACES.** -/
theorem St_swap {mi mj : Nat} {oi oj : Oper} {a : Act} {w : World} {R : Value → Value → World → Prop} (hm : swaps mi mj = true) (hw : Z w)
    (h : St P ops Z mi oi a w fun v w1 => St P ops Z mj oj a w1 fun u w2 => R v u w2) :
    St P ops Z mj oj a w fun u w1 => St P ops Z mi oi a w1 fun v w2 => R v u w2 := by
  by_cases hi : Region.wanted oi (yielded ops a.tmps) = true
  case neg =>
    have e : ∀ w (R : Value → World → Prop), St P ops Z mi oi a w R = R undef w := fun w R => by unfold St; rw [if_neg hi]
    rw [e] at h
    simp only [e]
    exact h
  by_cases hj : Region.wanted oj (yielded ops a.tmps) = true
  case neg =>
    have e : ∀ w (R : Value → World → Prop), St P ops Z mj oj a w R = R undef w := fun w R => by unfold St; rw [if_neg hj]
    rw [e]
    simp only [e] at h
    exact h
  have ei : ∀ w (R : Value → World → Prop), St P ops Z mi oi a w R = StIn P Z mi oi a w R := fun w R => by unfold St; rw [if_pos hi]
  have ej : ∀ w (R : Value → World → Prop), St P ops Z mj oj a w R = StIn P Z mj oj a w R := fun w R => by unfold St; rw [if_pos hj]
  by_cases h1 : mi = 1
  · subst h1
    simp only [ei, StIn] at h ⊢
    obtain ⟨v, hv, hR⟩ := h
    exact St_mono hw (fun u w1 _ hr => ⟨v, hv, hr⟩) hR
  by_cases h2 : mj = 1
  · subst h2
    simp only [ej] at h ⊢
    have hex : ∃ v w1, Z w1 ∧ ∃ u, (∀ w', Z w' → keeps P oj a w' u) ∧ R v u w1 := by
      rw [ei] at h
      unfold StIn at h
      split at h
      · obtain ⟨v, _, hr⟩ := h; exact ⟨v, w, hw, hr⟩
      · obtain ⟨v, _, hr⟩ := h; exact ⟨v, w, hw, hr⟩
      · obtain ⟨v, w1, hz, hr⟩ := leads_some h; exact ⟨v, w1, hz, hr⟩
    obtain ⟨_, w0, hz0, u, hu, _⟩ := hex
    refine ⟨u, hu, St_mono hw (fun v w1 hz1 hr => ?_) h⟩
    obtain ⟨u', hu', hr'⟩ := hr
    rw [keeps_inj (hu _ hz0) (hu' _ hz0)]
    exact hr'
  have h3 : mi = 2 ∧ mj = 2 := by
    match mi, mj, hm, h1, h2 with
    | 2, 2, _, _, _ => exact ⟨rfl, rfl⟩
    | 0, 0, hm, _, _ => simp [swaps] at hm
    | 0, n + 2, hm, _, _ => simp [swaps] at hm
    | 2, 0, hm, _, _ => simp [swaps] at hm
    | 2, n + 3, hm, _, _ => simp [swaps] at hm
    | n + 3, 0, hm, _, _ => simp [swaps] at hm
    | n + 3, k + 2, hm, _, _ => simp [swaps] at hm
  obtain ⟨rfl, rfl⟩ := h3
  simp only [ei, ej, StIn] at h ⊢
  obtain ⟨v, hv, u, hu, hr⟩ := h
  exact ⟨u, hu, v, hv, hr⟩


/-! ### Whatever order -/

def anyM (P : Program) (md : Region.Mode) (ops : Array Oper) (Z : World → Prop) (ms : List Nat) (Q : Act → World → Prop) : Nat → Array Bool → Act → World → Prop
  | 0, listed, a, w => Region.ready md ops listed = [] ∧ Q a w
  | fuel + 1, listed, a, w => (Region.ready md ops listed = [] → Q a w) ∧
    ∀ i ∈ Region.ready md ops listed, ∀ o, ops[i]? = some o → St P ops Z (modeAt ms i) o a w fun v w' => anyM P md ops Z ms Q fuel (listed.setIfInBounds i true) (a.put o.dst v) w'

theorem wp_of_leads {o : Oper} {a : Act} {w : World} {K : Act → World → Prop} {Q : Exit → Act → World → Prop} (h : leads P o a w fun v w' => K (a.put o.dst v) w') : o.wp P a w K Q := by
  unfold leads at h
  unfold Oper.wp
  generalize (execOp a.eval o).run P w = r at *
  cases r with
  | ok n w' =>
    cases n <;> simp only [Oper.upon] at h ⊢
    case enter f args => exact h.mono fun e w'' ⟨v, he, hr⟩ => by subst he; exact hr
    all_goals first | exact h | exact h.elim
  | halt x w' => exact h.elim

theorem leads_of_keeps {o : Oper} {a : Act} {w : World} {v : Value} {R : Value → World → Prop} (h : keeps P o a w v) (hr : R v w) : leads P o a w R := by
  unfold leads
  rcases h with h | ⟨h, rfl⟩ <;> rw [h] <;> exact hr

theorem any_of_anyM {ms : List Nat} {Q : Exit → Act → World → Prop} : ∀ (fuel : Nat) (listed : Array Bool) (a : Act) (w : World), Z w →
    anyM P md ops Z ms (Q .normal) fuel listed a w → wpAny P md ops Q fuel listed a w
  | 0, _, _, _, _, h => h
  | fuel + 1, listed, a, w, hw, h => by
    refine ⟨h.1, fun i hi => ?_⟩
    obtain ⟨_, o, ho, _⟩ := mem_ready.1 hi
    have hst := h.2 i hi o ho
    unfold wpOp
    simp only [ho]
    unfold St at hst
    split
    · rename_i hq
      rw [if_pos hq] at hst
      refine .inl (wp_of_leads ?_)
      unfold StIn at hst
      split at hst
      · obtain ⟨v, hv, hr⟩ := hst; exact leads_of_keeps (hv _ hw) (any_of_anyM fuel _ _ _ hw hr)
      · obtain ⟨v, hv, hr⟩ := hst; exact leads_of_keeps hv (any_of_anyM fuel _ _ _ hw hr)
      · exact leads_mono (fun v w' hz => any_of_anyM fuel _ _ _ hz.1 hz.2) hst
    · rename_i hq
      rw [if_neg hq] at hst
      exact any_of_anyM fuel _ _ _ hw hst

/-- Each two that may change places, or wait for each other. -/
def Fits (md : Region.Mode) (ops : Array Oper) (ms : List Nat) : Prop :=
  ∀ i j, i < ops.size → j < ops.size → i ≠ j → swaps (modeAt ms i) (modeAt ms j) = true ∨ Waits md ops i j ∨ Waits md ops j i

theorem ready_lt {i : Nat} {listed : Array Bool} (h : i ∈ Region.ready md ops listed) : i < ops.size := by
  obtain ⟨_, o, ho, _⟩ := mem_ready.1 h
  rcases Nat.lt_or_ge i ops.size with h' | h'
  · exact h'
  · simp [Array.getElem?_eq_none h'] at ho

theorem anyM_first {ms : List Nat} {Q : Act → World → Prop} {i : Nat} {oi : Oper} (hi : ops[i]? = some oi) (hsel : ∀ (j : Nat) (o : Oper) cs b, ops[j]? = some o → o.op ≠ .select cs b) (hfit : Fits md ops ms) :
    ∀ (fuel : Nat) (listed : Array Bool) (a : Act) (w : World), Z w → Shut md ops listed →
      (∀ j oj, ops[j]? = some oj → j ≠ i → listed.getD j true = false → (∀ e ∈ oj.after, Region.binds md e = true → e.on ≠ i) → oi.apart ops oj = true) →
      i ∈ Region.ready md ops listed →
      (St P ops Z (modeAt ms i) oi a w fun v w' => anyM P md ops Z ms Q fuel (listed.setIfInBounds i true) (a.put oi.dst v) w') →
      anyM P md ops Z ms Q (fuel + 1) listed a w := by
  intro fuel
  induction fuel with
  | zero =>
    intro listed a w hw hshut hfree hr H
    refine ⟨fun h => (by rw [h] at hr; cases hr), fun j hj oj hoj => ?_⟩
    by_cases hji : j = i
    · subst hji; rw [hi] at hoj; cases hoj; exact H
    · exfalso
      have : ∃ v w', anyM P md ops Z ms Q 0 (listed.setIfInBounds i true) (a.put oi.dst v) w' := by
        unfold St at H
        split at H
        · unfold StIn at H
          split at H
          · obtain ⟨v, _, h⟩ := H; exact ⟨v, w, h⟩
          · obtain ⟨v, _, h⟩ := H; exact ⟨v, w, h⟩
          · obtain ⟨v, w', _, h⟩ := leads_some H; exact ⟨v, w', h⟩
        · exact ⟨_, _, H⟩
      obtain ⟨v, w', h0, _⟩ := this
      have := ready_mono hj hji
      rw [h0] at this
      cases this
  | succ fuel ih =>
    intro listed a w hw hshut hfree hr H
    refine ⟨fun h => (by rw [h] at hr; cases hr), fun j hj oj hoj => ?_⟩
    by_cases hji : j = i
    · subst hji; rw [hi] at hoj; cases hoj; exact H
    obtain ⟨hjun, oj', hoj', hall⟩ := mem_ready.1 hj
    rw [hoj] at hoj'; cases hoj'
    have hiun := (mem_ready.1 hr).1
    have hnot : ∀ e ∈ oj.after, Region.binds md e = true → e.on ≠ i := fun e he hb heq => by
      have h1 := hall e he hb
      rw [heq, getD_mix hiun] at h1; cases h1
    have hap := hfree j oj hoj hji hjun hnot
    obtain ⟨p1, p2, p3⟩ := Oper.apart_spec hap
    have hsw : swaps (modeAt ms i) (modeAt ms j) = true := by
      rcases hfit i j (ready_lt hr) (ready_lt hj) (Ne.symm hji) with h | h | h
      · exact h
      · exact (h.not_ready hshut hiun hj).elim
      · exact (h.not_ready hshut hjun hr).elim
    have hfree' : ∀ k ok, ops[k]? = some ok → k ≠ i → (listed.setIfInBounds j true).getD k true = false →
        (∀ e ∈ ok.after, Region.binds md e = true → e.on ≠ i) → oi.apart ops ok = true := fun k ok hk hki hun hno => by
      refine hfree k ok hk hki ?_ hno
      by_cases hjk : j = k
      · subst hjk; exact hjun
      · rw [getD_set_ne true hjk] at hun; exact hun
    have H2 : St P ops Z (modeAt ms i) oi a w fun v w1 => St P ops Z (modeAt ms j) oj a w1 fun u w2 =>
        anyM P md ops Z ms Q fuel ((listed.setIfInBounds i true).setIfInBounds j true) ((a.put oi.dst v).put oj.dst u) w2 :=
      St_mono hw (fun v w1 _ h => (St_put (fun cs b => hsel j oj cs b hoj) p1).1 (h.2 j (ready_mono hj hji) oj hoj)) H
    refine St_mono hw (fun u w1 hz1 h => ?_) (St_swap hsw hw H2)
    refine ih (listed.setIfInBounds j true) (a.put oj.dst u) w1 hz1 (hshut.set hj) hfree' (ready_mono hr (Ne.symm hji)) ?_
    refine (St_put (fun cs b => hsel i oi cs b hi) p3).2 (St_mono hz1 (fun v w2 _ h' => ?_) h)
    rw [Array.setIfInBounds_comm _ _ hji, ← Act.put_comm a v u p2]
    exact h'

/-! ### The walk in the order of the text -/

def wpMix (P : Program) (ops : Array Oper) (Z : World → Prop) (Q : Act → World → Prop) : List Oper → List Nat → Act → World → Prop
  | [], _, a, w => Q a w
  | o :: r, ms, a, w => St P ops Z (modeAt ms 0) o a w fun v w' => wpMix P ops Z Q r ms.tail (a.put o.dst v) w'

theorem anyM_lex {ms : List Nat} {Q : Act → World → Prop} (hs : Region.noSelect ops = true) (hfit : Fits md ops ms) : ∀ (l : List Oper) (k : Nat) (listed : Array Bool) (a : Act) (w : World), Z w → Shut md ops listed → (∀ j, l[j]? = ops[k + j]?) →
    Region.lexFrom md ops l.length k listed = true → wpMix P ops Z Q l (ms.drop k) a w → anyM P md ops Z ms Q l.length listed a w
  | [], _, _, _, _, _, _, _, hB, h => ⟨by simpa [Region.lexFrom] using hB, h⟩
  | o :: l, k, listed, a, w, hw, hshut, hl, hB, h => by
    have h0 : ops[k]? = some o := by simpa using (hl 0).symm
    simp only [List.length_cons, Region.lexFrom, Bool.and_eq_true] at hB
    obtain ⟨⟨hr, hf⟩, hB'⟩ := hB
    have hr' : k ∈ Region.ready md ops listed := by simpa using hr
    have hmode : modeAt (ms.drop k) 0 = modeAt ms k := by simp [modeAt, List.getD_eq_getElem?_getD, List.getElem?_drop]
    simp only [wpMix, hmode, List.tail_drop] at h
    refine anyM_first h0 (Region.noSelect_spec hs) hfit l.length listed a w hw hshut (Region.free_spec h0 hf) hr' ?_
    exact St_mono hw (fun v w1 hz1 h' => anyM_lex hs hfit l (k + 1) _ _ _ hz1 (hshut.set hr') (fun j => by have := hl (j + 1); simpa [Nat.add_assoc, Nat.add_comm 1 j] using this) hB' h') h

theorem getD_replicate_mix {n i : Nat} : (Array.replicate n false).getD i false = false := by
  rcases Nat.lt_or_ge i n with h | h
  · simp [h]
  · simp [h]

/-- **A REGION THAT DRAWS ITS ORDER, WALKED ONCE.** -/
theorem wp_region_mix {id : Nat} {Q : Exit → Act → World → Prop} {a : Act} {w : World} {l : List Oper} (Z : World → Prop) (ms : List Nat) (hm : P.follows .mixedOrders = true) (hB : mixB .any l ms = true)
    (hz : Z w.drew) (h : wpMix P l.toArray Z (Q .normal) l ms a w.drew) : (Code.region id l.toArray true).wp P Q a w := by
  simp only [mixB, Bool.and_eq_true] at hB
  obtain ⟨⟨⟨hB, hlen⟩, hpairs⟩, _⟩ := hB
  have hB := lexB_of_Q hB
  simp only [Region.lexB, Bool.and_eq_true] at hB
  obtain ⟨hs, hlex⟩ := hB
  have hmk : ∀ j i, ((masks .any [] l).getD j 0).testBit i = true → Waits .any l.toArray i j :=
    masks_spec l [] (fun j hj => by simp) (fun j i h => by simp at h)
  have hfit : Fits .any l.toArray ms := fun i j hi hj hij => by
    have hi' : i < l.length := by simpa using hi
    have hj' : j < l.length := by simpa using hj
    rcases Nat.lt_or_gt_of_ne hij with h' | h'
    · rcases pairsB_spec hpairs j i hj' h' with h1 | h1
      · exact .inl h1
      · exact .inr (.inl (hmk _ _ h1))
    · rcases pairsB_spec hpairs i j hi' h' with h1 | h1
      · refine .inl ?_
        revert h1
        generalize modeAt ms i = x
        generalize modeAt ms j = y
        match x, y with
        | 1, 0 => exact fun _ => rfl
        | 1, 1 => exact fun _ => rfl
        | 1, n + 2 => exact fun _ => rfl
        | 0, 1 => exact fun _ => rfl
        | 2, 1 => exact fun _ => rfl
        | n + 3, 1 => exact fun _ => rfl
        | 2, 2 => exact fun _ => rfl
        | 0, 0 => intro h; simp [swaps] at h
        | 0, n + 2 => intro h; simp [swaps] at h
        | 2, 0 => intro h; simp [swaps] at h
        | 2, n + 3 => intro h; simp [swaps] at h
        | n + 3, 0 => intro h; simp [swaps] at h
        | n + 3, k + 2 => intro h; simp [swaps] at h
      · exact .inr (.inr (hmk _ _ h1))
  refine wp_region_any hm (any_of_anyM (Z := Z) (ms := ms) _ _ _ _ hz ?_)
  have := anyM_lex (P := P) (Z := Z) (md := .any) (ops := l.toArray) (Q := Q .normal) hs hfit l 0 (Array.replicate l.toArray.size false) a w.drew hz (fun j o ho hj => by rw [getD_replicate_mix] at hj; cases hj) (fun j => by simp) (by simpa using hlex) (by simpa using h)
  simpa using this

/-! ### Steps -/

theorem value_of_bind {s : Sem Value} {w w' : World} {n : Next} (h : (do pure (Next.value (← s)) : Sem Next).run P w = .ok n w') : ∃ v, n = .value v := by
  rw [Sem.run_bind] at h
  cases hs : s.run P w with
  | ok v w1 =>
    rw [hs] at h
    simp only [Result.andThen_ok] at h
    cases h
    exact ⟨v, rfl⟩
  | halt x w1 => rw [hs] at h; cases h

theorem not_enter {o : Oper} {ρ : Operand → Value} {w w' : World} {f : FuncId} {args : Array Value} (hv : valued o.op = true) : (execOp ρ o).run P w ≠ .ok (.enter f args) w' := by
  obtain ⟨dst, op, type, pos, after, guard⟩ := o
  intro h
  have key : ∀ s : Sem Value, (do pure (Next.value (← s)) : Sem Next).run P w = .ok (.enter f args) w' → False := fun s h => by
    obtain ⟨v, hv⟩ := value_of_bind h
    cases hv
  unfold execOp at h
  cases op <;> simp only [valued, Bool.false_eq_true] at hv <;> simp only at h
  all_goals first
    | exact key _ h
    | (cases h; done)
    | skip
  case pick c x y =>
    rw [Sem.run_bind] at h
    generalize (asBool (ρ c)).run P w = r at h
    cases r <;> cases h
  case call c =>
    obtain ⟨callee, cargs, ts⟩ := c
    cases callee <;> try (cases hv; done)
    rename_i b
    cases b <;> first | exact key _ h | cases hv

theorem keeps_of_quiet {C : World → Prop} {o : Oper} {a : Act} {w : World} {v : Value} (hv : valued o.op = true) (h : o.quietAt P a C w v) : keeps P o a w v := by
  unfold Oper.quietAt at h
  unfold keeps
  generalize hr : (execOp a.eval o).run P w = r at *
  cases r with
  | ok n w' =>
    cases n <;> simp only [Oper.quietUpon] at h
    case value u => obtain ⟨rfl, rfl⟩ := h; exact .inl rfl
    case skip => obtain ⟨rfl, rfl⟩ := h; exact .inr ⟨rfl, rfl⟩
    case enter f args => exact (not_enter hv hr).elim
  | halt x w' => simp only [Oper.quietUpon] at h

section
variable {Q : Act → World → Prop} {a : Act} {w : World} {o : Oper} {r : List Oper} {ms : List Nat}
theorem mix_nil (h : Q a w) : wpMix P ops Z Q [] ms a w := h
/-- One value, in every world of the class. -/
theorem mix_free (hw : Region.wanted o (yielded ops a.tmps) = true) (hv : valued o.op = true)
    (h : ∀ K : Act → Prop, (∀ a', wpMix P ops Z Q r ms a' w → K a') → o.quiet P a Z K) : wpMix P ops Z Q (o :: r) (1 :: ms) a w := by
  obtain ⟨v, h1, h2⟩ := h (fun a' => wpMix P ops Z Q r ms a' w) (fun _ h => h)
  show St P ops Z 1 o a w _
  unfold St
  rw [if_pos hw]
  exact ⟨v, fun w' hz => keeps_of_quiet hv (h1 w' hz), h2⟩
/-- Passed over. -/
theorem mix_skip {m j : Nat} {b : Bool} (_hg : o.guard = some (j, b)) (hw : Region.wanted o (yielded ops a.tmps) = false) (h : wpMix P ops Z Q r ms (a.put o.dst undef) w) : wpMix P ops Z Q (o :: r) (m :: ms) a w := by
  show St P ops Z m o a w _
  unfold St
  rw [if_neg (by rw [hw]; exact Bool.false_ne_true)]
  exact h
theorem leads_of_wp {R : Act → World → Prop} (h : o.wp P a w (fun a' w' => a'.defers = a.defers ∧ R a' w') (fun _ _ _ => False)) : leads P o a w fun v w' => R (a.put o.dst v) w' := by
  unfold Oper.wp at h
  unfold leads
  generalize (execOp a.eval o).run P w = r at *
  cases r with
  | ok n w' =>
    cases n <;> simp only [Oper.upon] at h ⊢
    case enter f args =>
      refine h.mono fun e w'' he => ?_
      cases e with
      | returned v => exact ⟨v, rfl, he.2⟩
      | panicked c => exact he.elim
      | outgrown => obtain ⟨_, _, h⟩ := he; exact h.elim
    case row row args => exact h.mono fun v w'' he => he.2
    case defer d =>
      exfalso
      have := h.1
      cases hd : o.dst <;> simp [Act.put, hd] at this
    all_goals first | exact h.2 | exact h.elim
  | halt x w' => cases x <;> exact h.elim
/-- It moves the world. -/
theorem mix_move (hw : Region.wanted o (yielded ops a.tmps) = true)
    (h : ∀ K : Act → World → Prop, (∀ a' w', (a'.defers = a.defers ∧ Z w' ∧ wpMix P ops Z Q r ms a' w') → K a' w') → o.wp P a w K (fun _ _ _ => False)) : wpMix P ops Z Q (o :: r) (0 :: ms) a w := by
  show St P ops Z 0 o a w _
  unfold St
  rw [if_pos hw]
  exact leads_of_wp (R := fun a' w' => Z w' ∧ wpMix P ops Z Q r ms a' w') (h _ fun _ _ h => h)
/-- It reads this very world. -/
theorem mix_still (hw : Region.wanted o (yielded ops a.tmps) = true) (hv : valued o.op = true)
    (h : ∀ K : Act → Prop, (∀ a', wpMix P ops Z Q r ms a' w → K a') → o.still P a w K) : wpMix P ops Z Q (o :: r) (2 :: ms) a w := by
  have h' := h (fun a' => wpMix P ops Z Q r ms a' w) (fun _ h => h)
  show St P ops Z 2 o a w _
  unfold St
  rw [if_pos hw]
  unfold Oper.still at h'
  generalize hr : (execOp a.eval o).run P w = x at *
  cases x with
  | ok n w' =>
    cases n <;> simp only [Oper.stillUpon] at h'
    case value u => obtain ⟨rfl, h2⟩ := h'; exact ⟨u, .inl hr, h2⟩
    case skip => obtain ⟨rfl, h2⟩ := h'; exact ⟨undef, .inr ⟨hr, rfl⟩, h2⟩
    case enter f args => exact (not_enter hv hr).elim
  | halt x w' => simp only [Oper.stillUpon] at h'
end
end
/-- The modes by the operations' kinds: what reads memory is 'still'. -/
def rd (o : Oper) : Nat :=
  match o.op with
  | .load .. | .lookup .. | .convert .. => 2
  | op => bif valued op then 1 else 0
/-- .. or it hands back one value in every world of the class. -/
def hd (o : Oper) : Nat := bif valued o.op then 1 else 0
theorem wp_region_auto {P : Program} {id : Nat} {Q : Exit → Act → World → Prop} {a : Act} {w : World} {l : List Oper} (Z : World → Prop) (md : Oper → Nat) (hm : P.follows .mixedOrders = true) (hB : mixB .any l (l.map md) = true)
    (hz : Z w.drew) (h : wpMix P l.toArray Z (Q .normal) l (l.map md) a w.drew) : (Code.region id l.toArray true).wp P Q a w :=
  wp_region_mix Z _ hm hB hz h
section
variable {P : Program} {ops : Array Oper} {Z : World → Prop} {Q : Act → World → Prop} {a : Act} {w : World} {o : Oper} {r : List Oper} {md : Oper → Nat}
theorem au_free (hm : md o = 1) (hw : Region.wanted o (yielded ops a.tmps) = true) (hv : valued o.op = true)
    (h : ∀ K : Act → Prop, (∀ a', wpMix P ops Z Q r (r.map md) a' w → K a') → o.quiet P a Z K) : wpMix P ops Z Q (o :: r) ((o :: r).map md) a w := by
  rw [List.map_cons, hm]; exact mix_free hw hv h
theorem au_still (hm : md o = 2) (hw : Region.wanted o (yielded ops a.tmps) = true) (hv : valued o.op = true)
    (h : ∀ K : Act → Prop, (∀ a', wpMix P ops Z Q r (r.map md) a' w → K a') → o.still P a w K) : wpMix P ops Z Q (o :: r) ((o :: r).map md) a w := by
  rw [List.map_cons, hm]; exact mix_still hw hv h
theorem au_move (hm : md o = 0) (hw : Region.wanted o (yielded ops a.tmps) = true)
    (h : ∀ K : Act → World → Prop, (∀ a' w', (a'.defers = a.defers ∧ Z w' ∧ wpMix P ops Z Q r (r.map md) a' w') → K a' w') → o.wp P a w K (fun _ _ _ => False)) : wpMix P ops Z Q (o :: r) ((o :: r).map md) a w := by
  rw [List.map_cons, hm]; exact mix_move hw h
theorem au_skip {j : Nat} {b : Bool} (hg : o.guard = some (j, b)) (hw : Region.wanted o (yielded ops a.tmps) = false) (h : wpMix P ops Z Q r (r.map md) (a.put o.dst undef) w) : wpMix P ops Z Q (o :: r) ((o :: r).map md) a w := by
  rw [List.map_cons]; exact mix_skip hg hw h
theorem au_nil (h : Q a w) : wpMix P ops Z Q [] ([].map md) a w := mix_nil h
end
/-! ### The class of worlds in which some blocks are as they were -/

structure InExt (S : Nat → Prop) (W w : World) : Prop where
  old : ∀ b, S b → w.heap[b]? = W.heap[b]?
  size : W.heap.size ≤ w.heap.size
theorem InExt.refl (S : Nat → Prop) (W : World) : InExt S W W := ⟨fun _ _ => rfl, Nat.le_refl _⟩
theorem InExt.drew {S : Nat → Prop} {W w : World} (h : InExt S W w) : InExt S W w.drew := ⟨h.old, h.size⟩
theorem InExt.below {S : Nat → Prop} {W w w' : World} (h : InExt S W w) (hS : ∀ b, S b → b < W.heap.size) (hb : RowKit.Below w.heap.size w w') : InExt S W w' :=
  ⟨fun b hs => (hb.block b (Nat.lt_of_lt_of_le (hS b hs) h.size)).trans (h.old b hs), Nat.le_trans h.size hb.size⟩
theorem InExt.alloc {S : Nat → Prop} {W w : World} (h : InExt S W w) (hS : ∀ b, S b → b < W.heap.size) (o : Obj) : InExt S W (w.alloc o) :=
  h.below hS ((RowKit.Below.refl _ _).alloc (Nat.le_refl _) o)
theorem InExt.setCell {S : Nat → Prop} {W w : World} (h : InExt S W w) {p : Addr} (hp : ¬ S p.block) (v : Value) : InExt S W (w.setCell p v) :=
  ⟨fun b hs => (RowKit.Below.heap_setCell w p v b (fun e => hp (e ▸ hs))).trans (h.old b hs), by simpa [World.setCell] using h.size⟩
/-- The class as a type. -/
def Ext (S : Nat → Prop) (W : World) : Type := { w : World // InExt S W w }
instance (S : Nat → Prop) (W : World) : Nonempty (Ext S W) := ⟨⟨W, InExt.refl S W⟩⟩
@[go_sem] theorem Ext.cell {S : Nat → Prop} {W : World} (x : Ext S W) {b i : Nat} (h : S b) : x.1.cell? ⟨b, i, none⟩ = W.cell? ⟨b, i, none⟩ := World.cell?_of_block (w := W) (x.2.old b h)
theorem Ext.block {S : Nat → Prop} {W : World} (x : Ext S W) {b : Nat} (h : S b) : x.1.heap[b]? = W.heap[b]? := x.2.old b h

section
variable {P : Program} {ops : Array Oper} {S : Nat → Prop} {W : World} {Q : Act → World → Prop} {a : Act} {w : World} {o : Oper} {r : List Oper} {md : Oper → Nat}
theorem wp_region_held {id : Nat} {Q : Exit → Act → World → Prop} {l : List Oper} (S : Nat → Prop) (hm : P.follows .mixedOrders = true) (hB : mixB .any l (l.map hd) = true)
    (h : wpMix P l.toArray (InExt S w) (Q .normal) l (l.map hd) a w.drew) : (Code.region id l.toArray true).wp P Q a w :=
  wp_region_mix (InExt S w) _ hm hB (InExt.refl S w).drew h
theorem hx_free (hm : md o = 1) (hw : Region.wanted o (yielded ops a.tmps) = true) (hv : valued o.op = true)
    (h : ∀ K : Act → Prop, (∀ a', wpMix P ops (InExt S W) Q r (r.map md) a' w → K a') → o.quiet P a (fun w' => ∃ x : Ext S W, w' = x.1) K) : wpMix P ops (InExt S W) Q (o :: r) ((o :: r).map md) a w := by
  refine au_free hm hw hv fun K hK => ?_
  obtain ⟨v, h1, h2⟩ := h K hK
  refine ⟨v, fun w' hz => ?_, h2⟩
  have := h1 w' ⟨⟨w', hz⟩, rfl⟩
  unfold Oper.quietAt at *
  generalize hr : (execOp a.eval o).run P w' = x at *
  cases x with
  | ok n w1 =>
    cases n <;> simp only [Oper.quietUpon] at this ⊢
    case enter f args => exact (not_enter hv hr).elim
    all_goals exact this
  | halt x w1 => simp only [Oper.quietUpon] at this
end

theorem below_step {w W w1 : World} (h : RowKit.Below w.heap.size w W) (hb : RowKit.Below W.heap.size W w1) : RowKit.Below w.heap.size w w1 := h.trans (hb.mono h.size)
theorem heap_alloc_get (w : World) (o : Obj) (i : Nat) : (w.alloc o).heap[i]? = if i = w.heap.size then some o else w.heap[i]? := by
  show (w.heap.push o)[i]? = _
  rw [Array.getElem?_push]
theorem heap_setCell_get (w : World) (a : Addr) (v : Value) (i : Nat) (h : i ≠ a.block) : (w.setCell a v).heap[i]? = w.heap[i]? := RowKit.Below.heap_setCell w a v i h
/-- What a callee that makes memory leaves of old cells, for the walk. -/
theorem bcell {W w1 : World} (hb : RowKit.Below W.heap.size W w1) : (∀ b o, b < W.heap.size → w1.cell? ⟨b, o, none⟩ = W.cell? ⟨b, o, none⟩) ∧ (∀ b o, b < W.heap.size → w1.frozen? ⟨b, o, none⟩ = W.frozen? ⟨b, o, none⟩) ∧ W.heap.size ≤ w1.heap.size :=
  ⟨fun b o h => hb.cell (p := ⟨b, o, none⟩) h, fun b o h => hb.frozen (p := ⟨b, o, none⟩) h, hb.size⟩
attribute [irreducible] wpMix
end Go.Flo

/-! The blocks of a call's own, kept in a row: each with what it holds. No program is named here. -/
namespace Go.Flo
open Go Go.RowKit

/-- Blocks, each with its cells. -/
def Locs (w : World) : List (Nat × Array Value × TypeId) → Prop
  | [] => True
  | (b, cs, t) :: l => w.heap[b]? = some (.cells cs t (0, 0)) ∧ Locs w l
/-- .. as a walk wants it. -/
def LocFacts (w : World) : List (Nat × Array Value × TypeId) → Prop
  | [] => True
  | (b, cs, _) :: l => b < w.heap.size ∧ b ≤ w.heap.size ∧ (∀ j, w.cell? ⟨b, j, none⟩ = cs[j]?) ∧ (∀ j, w.frozen? ⟨b, j, none⟩ = false) ∧ LocFacts w l

theorem heap_lt {w : World} {b : Nat} {o : Obj} (h : w.heap[b]? = some o) : b < w.heap.size := by
  rcases Nat.lt_or_ge b w.heap.size with h' | h'
  · exact h'
  · simp [Array.getElem?_eq_none h'] at h

theorem Locs.facts {w : World} : ∀ {l : List (Nat × Array Value × TypeId)}, Locs w l → LocFacts w l
  | [], _ => trivial
  | (b, cs, t) :: _, h => ⟨heap_lt h.1, Nat.le_of_lt (heap_lt h.1), fun j => cell_of_row w b j cs t _ h.1, fun j => frozen_of_row w b j cs t h.1, Locs.facts h.2⟩
theorem Locs.nil (w : World) : Locs w [] := trivial
theorem Locs.below {w w' : World} : ∀ {l : List (Nat × Array Value × TypeId)}, Locs w l → Below w.heap.size w w' → Locs w' l
  | [], _, _ => trivial
  | (_, _, _) :: _, h, hb => ⟨(hb.block _ (heap_lt h.1)).trans h.1, Locs.below h.2 hb⟩
theorem Locs.drew {w : World} {l : List (Nat × Array Value × TypeId)} (h : Locs w l) : Locs w.drew l := h.below (Below.refl _ _).drew
theorem Locs.push {w : World} {l : List (Nat × Array Value × TypeId)} {cs : Array Value} {t : TypeId} (h : Locs w l) : Locs (w.alloc (.cells cs t)) ((w.heap.size, cs, t) :: l) :=
  ⟨by rw [heap_alloc_get, if_pos rfl], h.below ((Below.refl _ _).alloc (Nat.le_refl _) _)⟩
/-- A block that is in the row already is kept beside. -/
theorem Locs.cons {w : World} {l : List (Nat × Array Value × TypeId)} {b : Nat} {cs : Array Value} {t : TypeId} (h : w.heap[b]? = some (.cells cs t (0, 0))) (hl : Locs w l) : Locs w ((b, cs, t) :: l) := ⟨h, hl⟩

theorem wp_region_heldall {P : Program} {a : Act} {w : World} {id : Nat} {Q : Exit → Act → World → Prop} {l : List Oper} (hm : P.follows .mixedOrders = true) (hB : mixB .any l (l.map hd) = true)
    (h : wpMix P l.toArray (InExt (fun b => b < w.heap.size) w) (Q .normal) l (l.map hd) a w.drew) : (Code.region id l.toArray true).wp P Q a w :=
  wp_region_held (fun b => b < w.heap.size) hm hB h
end Go.Flo

/-! A region that draws its order, in which memory is made beside calls: ahead of the first operation that moves the world, the walk holds no world but a row of what was made; each fresh block is any fresh block. No program is named here. -/
namespace Go.Flo
open Go Go.RowKit
section
variable {P : Program} {ops : Array Oper} {md : Region.Mode}

/-- What each operation has made: a block and what it holds. -/
abbrev Made := Nat → Option (Nat × Obj)
def Made.put (fs : Made) (j : Nat) (x : Nat × Obj) : Made := fun i => if i = j then some x else fs i
theorem Made.put_comm (fs : Made) {i j : Nat} (x y : Nat × Obj) (h : i ≠ j) : (fs.put i x).put j y = (fs.put j y).put i x := by
  funext k
  unfold Made.put
  by_cases h1 : k = j
  · subst h1; rw [if_pos rfl, if_neg (Ne.symm h), if_pos rfl]
  · rw [if_neg h1]
    by_cases h2 : k = i
    · subst h2; rw [if_pos rfl, if_pos rfl]
    · rw [if_neg h2, if_neg h2, if_neg h1]
structure Fresh (W : World) (fs : Made) (b : Nat) : Prop where
  new : W.heap.size ≤ b
  other : ∀ i c z, fs i = some (c, z) → c ≠ b
structure Holds (W : World) (D : Nat → Bool) (fs : Made) (w : World) : Prop where
  below : Below W.heap.size W w
  made : ∀ i b z, D i = true → fs i = some (b, z) → W.heap.size ≤ b ∧ w.heap[b]? = some z
def allOf : Nat → Bool := fun _ => true
theorem Holds.less {W : World} {D : Nat → Bool} {fs : Made} {w : World} (h : Holds W allOf fs w) : Holds W D fs w := ⟨h.below, fun i b z _ he => h.made i b z rfl he⟩
theorem Holds.put {W : World} {D : Nat → Bool} {fs : Made} {w : World} {j : Nat} {x : Nat × Obj} (hD : D j = false) : Holds W D (fs.put j x) w ↔ Holds W D fs w := by
  have key : ∀ i, D i = true → fs.put j x i = fs i := fun i hi => by
    unfold Made.put
    rw [if_neg]
    rintro rfl
    rw [hD] at hi
    cases hi
  exact ⟨fun h => ⟨h.below, fun i b z hi he => h.made i b z hi (by rw [key i hi]; exact he)⟩, fun h => ⟨h.below, fun i b z hi he => h.made i b z hi (by rw [← key i hi]; exact he)⟩⟩
theorem heap_lt2 {w : World} {b : Nat} {o : Obj} (h : w.heap[b]? = some o) : b < w.heap.size := by
  rcases Nat.lt_or_ge b w.heap.size with h' | h'
  · exact h'
  · simp [Array.getElem?_eq_none h'] at h
theorem Holds.fresh {W : World} {fs : Made} {w : World} (h : Holds W allOf fs w) : Fresh W fs w.heap.size :=
  ⟨h.below.size, fun i c z he hc => by
    have := heap_lt2 (h.made i c z rfl he).2
    omega⟩
theorem Holds.alloc {W : World} {fs : Made} {w : World} (h : Holds W allOf fs w) (j : Nat) (z : Obj) : Holds W allOf (fs.put j (w.heap.size, z)) (w.alloc z) :=
  ⟨h.below.alloc h.below.size z, fun i b z' _ he => by
    unfold Made.put at he
    by_cases hi : i = j
    · rw [if_pos hi] at he
      cases he
      exact ⟨h.below.size, by rw [heap_alloc_get, if_pos rfl]⟩
    · rw [if_neg hi] at he
      obtain ⟨h1, h2⟩ := h.made i b z' rfl he
      exact ⟨h1, by rw [heap_alloc_get, if_neg (by have := heap_lt2 h2; omega)]; exact h2⟩⟩
theorem Holds.step {W : World} {D : Nat → Bool} {fs : Made} {w w' : World} (h : Holds W D fs w) (hb : Below w.heap.size w w') : Holds W D fs w' :=
  ⟨below_step h.below hb, fun i b z hi he => by
    obtain ⟨h1, h2⟩ := h.made i b z hi he
    exact ⟨h1, (hb.block b (heap_lt2 h2)).trans h2⟩⟩

/-- Where the walk stands: the world is not held, or it is. -/
inductive Ph | soft (fs : Made) | hard (w : World)
def Ph.J (W : World) : Ph → World → Prop
  | .soft fs, w => Holds W allOf fs w
  | .hard w0, w => w = w0

/-- 0 it moves the world · 1 one value in every world of the class · 3 it makes a block · 4 one value in every world the walk may stand in; it may make memory that nobody sees. -/
def swaps2 : Nat → Nat → Bool
  | 1, _ => true
  | _, 1 => true
  | 3, 3 => true
  | 3, 4 => true
  | 4, 3 => true
  | 4, 4 => true
  | _, _ => false

theorem ends_one {P : Program} : ∀ (n1 n2 : Nat) (m m1 m2 : Machine), runN P n1 m = .next m1 → runN P n2 m = .next m2 → (∀ m', step P m1 ≠ .next m') → (∀ m', step P m2 ≠ .next m') → m1 = m2
  | 0, 0, m, m1, m2, h1, h2, _, _ => by cases h1; cases h2; rfl
  | 0, n + 1, m, m1, m2, h1, h2, e1, _ => by
    cases h1
    unfold runN at h2
    cases hs : step P m with
    | next m' => exact (e1 m' hs).elim
    | ended x w => rw [hs] at h2; cases h2
  | n + 1, 0, m, m1, m2, h1, h2, _, e2 => by
    cases h2
    unfold runN at h1
    cases hs : step P m with
    | next m' => exact (e2 m' hs).elim
    | ended x w => rw [hs] at h1; cases h1
  | n1 + 1, n2 + 1, m, m1, m2, h1, h2, e1, e2 => by
    unfold runN at h1 h2
    cases hs : step P m with
    | next m' => rw [hs] at h1 h2; exact ends_one n1 n2 m' m1 m2 h1 h2 e1 e2
    | ended x w => rw [hs] at h1; cases h1
theorem Calls.one {f : FuncId} {args : Array Value} {w : World} {v1 v2 : Value} {R1 R2 : World → Prop} (hi : P.inits.idxOf? f = none)
    (h1 : Calls P f args w fun e w' => e = .returned v1 ∧ R1 w') (h2 : Calls P f args w fun e w' => e = .returned v2 ∧ R2 w') : v1 = v2 := by
  obtain ⟨e1, w1, fr1, ⟨rfl, _⟩, ⟨n1, c1⟩, hf1, l1⟩ := h1 []
  obtain ⟨e2, w2, fr2, ⟨rfl, _⟩, ⟨n2, c2⟩, hf2, l2⟩ := h2 []
  have s1 := step_leave_done l1 (by rw [hf1]; exact hi)
  have s2 := step_leave_done l2 (by rw [hf2]; exact hi)
  have := ends_one n1 n2 _ _ _ c1 c2 (fun m' h => by rw [s1] at h; cases h) (fun m' h => by rw [s2] at h; cases h)
  rw [this, s2] at s1
  cases s1
  rfl
/-- It calls a Go function that hands back v. -/
def gives (P : Program) (o : Oper) (a : Act) (w : World) (v : Value) : Prop :=
  match (execOp a.eval o).run P w with
  | .ok (.enter f args) w' => w' = w ∧ P.inits.idxOf? f = none ∧ Calls P f args w fun e w'' => e = .returned v ∧ Below w.heap.size w w''
  | _ => False
theorem gives_inj {o : Oper} {a : Act} {w : World} {v u : Value} (h : gives P o a w v) (h' : gives P o a w u) : v = u := by
  unfold gives at *
  generalize (execOp a.eval o).run P w = r at *
  cases r with
  | ok n w' =>
    cases n <;> simp only at h h'
    exact Calls.one h.2.1 h.2.2 h'.2.2
  | halt x w' => exact h.elim
theorem leads_of_gives {o : Oper} {a : Act} {w : World} {v : Value} {R : Value → World → Prop} (h : gives P o a w v) (hr : ∀ w', Below w.heap.size w w' → R v w') : leads P o a w R := by
  unfold gives leads at *
  generalize (execOp a.eval o).run P w = r at *
  cases r with
  | ok n w' =>
    cases n <;> simp only at h ⊢
    exact h.1 ▸ h.2.2.mono fun e w'' ⟨he, hb⟩ => ⟨v, he, hr _ hb⟩
  | halt x w' => exact h.elim
def makesAt (P : Program) (o : Oper) (a : Act) (z : Obj) (f : Nat → Value) : Prop := ∀ w : World, (execOp a.eval o).run P w = .ok (.value (f w.heap.size)) (w.alloc z)
def givesAt (P : Program) (W : World) (D : Nat → Bool) (fs : Made) (o : Oper) (a : Act) (v : Value) : Prop := ∀ w, Holds W D fs w → gives P o a w v

def SuIn (P : Program) (W : World) (Z : World → Prop) (D : Nat → Bool) (j m : Nat) (o : Oper) (a : Act) (ph : Ph) (R : Value → Ph → Prop) : Prop :=
  match m with
  | 1 => ∃ v, (∀ w', Z w' → keeps P o a w' v) ∧ R v ph
  | 3 => ∃ fs, ph = .soft fs ∧ ∃ z f, makesAt P o a z f ∧ ∀ b, Fresh W fs b → R (f b) (.soft (fs.put j (b, z)))
  | 4 => ∃ fs, ph = .soft fs ∧ ∃ v, givesAt P W D fs o a v ∧ R v ph
  | _ => ∀ w, ph.J W w → leads P o a w fun v w' => Z w' ∧ R v (.hard w')
def Su (P : Program) (W : World) (ops : Array Oper) (Z : World → Prop) (D : Nat → Bool) (j m : Nat) (o : Oper) (a : Act) (ph : Ph) (R : Value → Ph → Prop) : Prop :=
  if Region.wanted o (yielded ops a.tmps) then SuIn P W Z D j m o a ph R else R undef ph

variable {W : World} {Z : World → Prop}
/-- What the walk knows. -/
structure Stand (W : World) (Z : World → Prop) (ph : Ph) : Prop where
  some : ∃ w, ph.J W w
  inZ : ∀ w, ph.J W w → Z w

theorem Stand.hard {w : World} (h : Z w) : Stand W Z (.hard w) := ⟨⟨w, rfl⟩, fun _ e => e ▸ h⟩
theorem Stand.soft {fs : Made} (hZ : ∀ w, Below W.heap.size W w → Z w) {w : World} (h : Holds W allOf fs w) : Stand W Z (.soft fs) := ⟨⟨w, h⟩, fun _ h => hZ _ h.below⟩

theorem Holds.any {fs : Made} {w : World} (h : Holds W allOf fs w) (j : Nat) {b : Nat} (z : Obj) (hb : Fresh W fs b) : ∃ w', Holds W allOf (fs.put j (b, z)) w' := by
  refine ⟨{ w with heap := (w.heap ++ Array.replicate (b + 1) z).setIfInBounds b z }, ⟨h.below.os, h.below.tape, h.below.output, ?_, fun k hk => ?_⟩, fun i c y _ he => ?_⟩
  · have := h.below.size
    simp
    omega
  · have h1 := h.below.size
    have h2 := hb.new
    rw [Array.getElem?_setIfInBounds, if_neg (by omega), Array.getElem?_append_left (by omega)]
    exact h.below.block k hk
  · unfold Made.put at he
    by_cases hi : i = j
    · rw [if_pos hi] at he
      cases he
      exact ⟨hb.new, by rw [Array.getElem?_setIfInBounds, if_pos rfl, if_pos (by simp; omega)]⟩
    · rw [if_neg hi] at he
      obtain ⟨h1, h2⟩ := h.made i c y rfl he
      have h3 := heap_lt2 h2
      refine ⟨h1, ?_⟩
      rw [Array.getElem?_setIfInBounds, if_neg (fun e => hb.other i c y he e.symm), Array.getElem?_append_left h3]
      exact h2

/-- Nothing is made by k. -/
def Ph.un (ph : Ph) (k : Nat) : Prop := ∀ fs, ph = .soft fs → fs k = none
theorem Ph.un_hard (w : World) (k : Nat) : (Ph.hard w).un k := fun _ e => by cases e
theorem Ph.un_put {fs : Made} {j k : Nat} {x : Nat × Obj} (hk : k ≠ j) (h : (Ph.soft fs).un k) : (Ph.soft (fs.put j x)).un k := fun _ e => by
  cases e
  unfold Made.put
  rw [if_neg hk]
  exact h _ rfl
theorem Su_mono {D : Nat → Bool} {j m : Nat} {o : Oper} {a : Act} {ph : Ph} {R R' : Value → Ph → Prop} (hZ : ∀ w, Below W.heap.size W w → Z w) (hs : Stand W Z ph)
    (h : ∀ v ph', Stand W Z ph' → (∀ k, k ≠ j → ph.un k → ph'.un k) → R v ph' → R' v ph') (hh : Su P W ops Z D j m o a ph R) : Su P W ops Z D j m o a ph R' := by
  unfold Su at *
  split
  · rename_i hq
    rw [if_pos hq] at hh
    unfold SuIn at *
    split at hh
    · obtain ⟨v, h1, h2⟩ := hh; exact ⟨v, h1, h _ _ hs (fun _ _ h => h) h2⟩
    · obtain ⟨fs, rfl, z, f, h1, h2⟩ := hh
      refine ⟨fs, rfl, z, f, h1, fun b hb => ?_⟩
      obtain ⟨w, hw⟩ := hs.some
      exact h _ _ ⟨Holds.any hw j z hb, fun w' hw' => hZ _ hw'.below⟩ (fun k hk hu => Ph.un_put hk hu) (h2 b hb)
    · obtain ⟨fs, rfl, v, h1, h2⟩ := hh; exact ⟨fs, rfl, v, h1, h _ _ hs (fun _ _ h => h) h2⟩
    · intro w hw
      exact leads_mono (fun v w' hz => ⟨hz.1, h _ _ (Stand.hard hz.1) (fun k _ _ => Ph.un_hard w' k) hz.2⟩) (hh w hw)
  · rename_i hq
    rw [if_neg hq] at hh
    exact h _ _ hs (fun _ _ h => h) hh

theorem Su_put {D : Nat → Bool} {j m : Nat} {o : Oper} {a : Act} {ph : Ph} {R : Value → Ph → Prop} {d : Option Tmp} {u : Value} (hs : ∀ cs b, o.op ≠ .select cs b) (h : ∀ t, d = some t → t ∉ o.looksAt ops) :
    Su P W ops Z D j m o (a.put d u) ph R ↔ Su P W ops Z D j m o a ph R := by
  unfold Su SuIn makesAt givesAt gives keeps leads
  rw [wanted_put o a d u h, execOp_put o hs a d u h]


theorem makes_inj {o : Oper} {a : Act} {z z' : Obj} {f f' : Nat → Value} (h : makesAt P o a z f) (h' : makesAt P o a z' f') (w : World) : z = z' ∧ f = f' := by
  have key : ∀ n, f n = f' n ∧ z = z' := fun n => by
    have h1 := h { w with heap := Array.replicate n z }
    rw [h' { w with heap := Array.replicate n z }] at h1
    simp only [Result.ok.injEq, Next.value.injEq, Array.size_replicate] at h1
    refine ⟨h1.1.symm, ?_⟩
    have h2 := congrArg (fun w : World => w.heap[n]?) h1.2
    simp only [heap_alloc_get, Array.size_replicate, if_pos] at h2
    exact (Option.some.inj h2).symm
  exact ⟨(key 0).2, funext fun n => (key n).1⟩

theorem Fresh.of_put {fs : Made} {i : Nat} {x : Nat × Obj} {b : Nat} (h : Fresh W (fs.put i x) b) (hn : fs i = none) : Fresh W fs b ∧ x.1 ≠ b :=
  ⟨⟨h.new, fun k c z he => by
    by_cases hk : k = i
    · subst hk; rw [hn] at he; cases he
    · exact h.other k c z (by unfold Made.put; rw [if_neg hk]; exact he)⟩,
   h.other i x.1 x.2 (by unfold Made.put; rw [if_pos rfl])⟩
theorem Fresh.put {fs : Made} {i : Nat} {x : Nat × Obj} {b : Nat} (h : Fresh W fs b) (hx : x.1 ≠ b) : Fresh W (fs.put i x) b :=
  ⟨h.new, fun k c z he => by
    unfold Made.put at he
    by_cases hk : k = i
    · rw [if_pos hk] at he; cases he; exact hx
    · rw [if_neg hk] at he; exact h.other k c z he⟩

/-- **TWO OPERATIONS CHANGE PLACES.** -/
theorem Su_swap {Di Dj : Nat → Bool} {i j mi mj : Nat} {oi oj : Oper} {a : Act} {ph : Ph} {R : Value → Value → Ph → Prop} (hZ : ∀ w, Below W.heap.size W w → Z w) (hij : i ≠ j) (hDi : Di j = false) (hDj : Dj i = false) (hm : swaps2 mi mj = true) (hs : Stand W Z ph)
    (hni : ph.un i) (hnj : ph.un j)
    (h : Su P W ops Z Di i mi oi a ph fun v ph1 => Su P W ops Z Dj j mj oj a ph1 fun u ph2 => R v u ph2) :
    Su P W ops Z Dj j mj oj a ph fun u ph1 => Su P W ops Z Di i mi oi a ph1 fun v ph2 => R v u ph2 := by
  by_cases hi : Region.wanted oi (yielded ops a.tmps) = true
  case neg =>
    have e : ∀ ph (R : Value → Ph → Prop), Su P W ops Z Di i mi oi a ph R = R undef ph := fun w R => by unfold Su; rw [if_neg hi]
    rw [e] at h
    simp only [e]
    exact h
  by_cases hj : Region.wanted oj (yielded ops a.tmps) = true
  case neg =>
    have e : ∀ ph (R : Value → Ph → Prop), Su P W ops Z Dj j mj oj a ph R = R undef ph := fun w R => by unfold Su; rw [if_neg hj]
    rw [e]
    simp only [e] at h
    exact h
  have ei : ∀ ph (R : Value → Ph → Prop), Su P W ops Z Di i mi oi a ph R = SuIn P W Z Di i mi oi a ph R := fun w R => by unfold Su; rw [if_pos hi]
  have ej : ∀ ph (R : Value → Ph → Prop), Su P W ops Z Dj j mj oj a ph R = SuIn P W Z Dj j mj oj a ph R := fun w R => by unfold Su; rw [if_pos hj]
  obtain ⟨w0, hw0⟩ := hs.some
  by_cases h1 : mi = 1
  · subst h1
    simp only [ei, SuIn] at h ⊢
    obtain ⟨v, hv, hR⟩ := h
    exact Su_mono hZ hs (fun u ph1 _ _ hr => ⟨v, hv, hr⟩) hR
  by_cases h2 : mj = 1
  · subst h2
    simp only [ej] at h ⊢
    have hex : ∃ v ph1, Stand W Z ph1 ∧ ∃ u, (∀ w', Z w' → keeps P oj a w' u) ∧ R v u ph1 := by
      rw [ei] at h
      unfold SuIn at h
      split at h
      · obtain ⟨v, _, hr⟩ := h; exact ⟨v, ph, hs, hr⟩
      · obtain ⟨fs, rfl, z, f, _, hr⟩ := h
        have hb := Holds.fresh hw0
        exact ⟨f w0.heap.size, .soft (fs.put i (w0.heap.size, z)), ⟨Holds.any hw0 i z hb, fun w' hw' => hZ _ hw'.below⟩, hr _ hb⟩
      · obtain ⟨fs, rfl, v, _, hr⟩ := h; exact ⟨v, _, hs, hr⟩
      · obtain ⟨v, w1, hz, hr⟩ := leads_some (h w0 hw0); exact ⟨v, _, Stand.hard hz, hr⟩
    obtain ⟨_, ph1, hs1, u, hu, _⟩ := hex
    have hz0 := hs.inZ _ hw0
    refine ⟨u, hu, Su_mono hZ hs (fun v w1 hz1 _ hr => ?_) h⟩
    obtain ⟨u', hu', hr'⟩ := hr
    rw [keeps_inj (hu _ hz0) (hu' _ hz0)]
    exact hr'
  simp only [ei, ej] at h ⊢
  have h3 : (mi = 3 ∨ mi = 4) ∧ (mj = 3 ∨ mj = 4) := by
    match mi, mj, hm, h1, h2 with
    | 3, 3, _, _, _ => exact ⟨.inl rfl, .inl rfl⟩
    | 3, 4, _, _, _ => exact ⟨.inl rfl, .inr rfl⟩
    | 4, 3, _, _, _ => exact ⟨.inr rfl, .inl rfl⟩
    | 4, 4, _, _, _ => exact ⟨.inr rfl, .inr rfl⟩
    | 0, n, hm, _, h2 => match n, hm, h2 with | 0, hm, _ => simp [swaps2] at hm | n + 2, hm, _ => simp [swaps2] at hm
    | 2, n, hm, _, h2 => match n, hm, h2 with | 0, hm, _ => simp [swaps2] at hm | n + 2, hm, _ => simp [swaps2] at hm
    | 3, 0, hm, _, _ => simp [swaps2] at hm
    | 3, 2, hm, _, _ => simp [swaps2] at hm
    | 3, n + 5, hm, _, _ => simp [swaps2] at hm
    | 4, 0, hm, _, _ => simp [swaps2] at hm
    | 4, 2, hm, _, _ => simp [swaps2] at hm
    | 4, n + 5, hm, _, _ => simp [swaps2] at hm
    | k + 5, n, hm, _, h2 => match n, hm, h2 with | 0, hm, _ => simp [swaps2] at hm | n + 2, hm, _ => simp [swaps2] at hm
  obtain ⟨rfl | rfl, rfl | rfl⟩ := h3
  · -- makers
    simp only [SuIn] at h ⊢
    obtain ⟨fs, rfl, z, f, hM, h⟩ := h
    have n1 := hni fs rfl
    have n2 := hnj fs rfl
    have hb0 := Holds.fresh hw0
    obtain ⟨_, e, z', f', hM', _⟩ := h _ hb0
    cases e
    refine ⟨fs, rfl, z', f', hM', fun b' hb' => ⟨_, rfl, z, f, hM, fun b hb => ?_⟩⟩
    obtain ⟨g1, g2⟩ := hb.of_put n2
    obtain ⟨_, e, z2, f2, hM2, hR⟩ := h b g1
    cases e
    obtain ⟨rfl, rfl⟩ := makes_inj hM' hM2 W
    have := hR b' (hb'.put (Ne.symm g2))
    rw [Made.put_comm _ _ _ hij] at this
    exact this
  · -- maker, then value
    simp only [SuIn] at h ⊢
    obtain ⟨fs, rfl, z, f, hM, h⟩ := h
    have hb0 := Holds.fresh hw0
    obtain ⟨_, e, v, hv, _⟩ := h _ hb0
    cases e
    have hv' : givesAt P W Dj fs oj a v := fun w hw => hv w ((Holds.put hDj).2 hw)
    refine ⟨fs, rfl, v, hv', fs, rfl, z, f, hM, fun b hb => ?_⟩
    obtain ⟨_, e, v2, hv2, hR⟩ := h b hb
    cases e
    have := gives_inj (hv' w0 (Holds.less hw0)) (hv2 w0 ((Holds.put hDj).2 (Holds.less hw0)))
    rw [this]
    exact hR
  · -- value, then maker
    simp only [SuIn] at h ⊢
    obtain ⟨fs, rfl, v, hv, fs', e, z, f, hM, h⟩ := h
    cases e
    exact ⟨fs, rfl, z, f, hM, fun b hb => ⟨_, rfl, v, fun w hw => hv w ((Holds.put hDi).1 hw), h b hb⟩⟩
  · simp only [SuIn] at h ⊢
    obtain ⟨fs, rfl, v, hv, fs', e, u, hu, h⟩ := h
    cases e
    exact ⟨fs, rfl, u, hu, fs, rfl, v, hv, h⟩

/-! ### Whatever order -/

def anyS (P : Program) (W : World) (md : Region.Mode) (ops : Array Oper) (Z : World → Prop) (mk ms : List Nat) (Q : Act → World → Prop) : Nat → Array Bool → Act → Ph → Prop
  | 0, listed, a, ph => Region.ready md ops listed = [] ∧ ∀ w, ph.J W w → Q a w
  | fuel + 1, listed, a, ph => (Region.ready md ops listed = [] → ∀ w, ph.J W w → Q a w) ∧
    ∀ i ∈ Region.ready md ops listed, ∀ o, ops[i]? = some o → Su P W ops Z (fun k => (mk.getD i 0).testBit k) i (modeAt ms i) o a ph fun v ph' => anyS P W md ops Z mk ms Q fuel (listed.setIfInBounds i true) (a.put o.dst v) ph'

theorem any_of_anyS {mk ms : List Nat} {Q : Exit → Act → World → Prop} (hZ : ∀ w, Below W.heap.size W w → Z w) : ∀ (fuel : Nat) (listed : Array Bool) (a : Act) (ph : Ph) (w : World), ph.J W w → Stand W Z ph →
    anyS P W md ops Z mk ms (Q .normal) fuel listed a ph → wpAny P md ops Q fuel listed a w
  | 0, _, _, _, _, hj, _, h => ⟨h.1, h.2 _ hj⟩
  | fuel + 1, listed, a, ph, w, hj, hs, h => by
    refine ⟨fun hr => h.1 hr w hj, fun i hi => ?_⟩
    obtain ⟨_, o, ho, _⟩ := mem_ready.1 hi
    have hst := h.2 i hi o ho
    unfold wpOp
    simp only [ho]
    unfold Su at hst
    split
    · rename_i hq
      rw [if_pos hq] at hst
      refine .inl (wp_of_leads ?_)
      unfold SuIn at hst
      split at hst
      · obtain ⟨v, hv, hr⟩ := hst; exact leads_of_keeps (hv _ (hs.inZ _ hj)) (any_of_anyS hZ fuel _ _ _ _ hj hs hr)
      · obtain ⟨fs, rfl, z, f, hM, hr⟩ := hst
        have hb := Holds.fresh hj
        unfold leads
        rw [hM w]
        exact any_of_anyS hZ fuel _ _ (.soft (fs.put i (w.heap.size, z))) _ (Holds.alloc hj i z) ⟨⟨w.alloc z, Holds.alloc hj i z⟩, fun w' hw' => hZ _ hw'.below⟩ (hr _ hb)
      · obtain ⟨fs, rfl, v, hv, hr⟩ := hst
        exact leads_of_gives (hv w (Holds.less hj)) fun w' hb => any_of_anyS hZ fuel _ _ (.soft fs) _ (Holds.step hj hb) hs hr
      · exact leads_mono (fun v w' hz => any_of_anyS hZ fuel _ _ (.hard w') _ rfl (Stand.hard hz.1) hz.2) (hst w hj)
    · rename_i hq
      rw [if_neg hq] at hst
      exact any_of_anyS hZ fuel _ _ _ _ hj hs hst

def Fits2 (md : Region.Mode) (ops : Array Oper) (ms : List Nat) : Prop :=
  ∀ i j, i < ops.size → j < ops.size → i ≠ j → swaps2 (modeAt ms i) (modeAt ms j) = true ∨ Waits md ops i j ∨ Waits md ops j i

theorem anyS_first {mk ms : List Nat} {Q : Act → World → Prop} {i : Nat} {oi : Oper} (hZ : ∀ w, Below W.heap.size W w → Z w) (hi : ops[i]? = some oi) (hsel : ∀ (j : Nat) (o : Oper) cs b, ops[j]? = some o → o.op ≠ .select cs b) (hfit : Fits2 md ops ms)
    (hmk : ∀ j k, (mk.getD j 0).testBit k = true → Waits md ops k j) :
    ∀ (fuel : Nat) (listed : Array Bool) (a : Act) (ph : Ph), Stand W Z ph → (∀ k, listed.getD k true = false → ph.un k) → Shut md ops listed →
      (∀ j oj, ops[j]? = some oj → j ≠ i → listed.getD j true = false → (∀ e ∈ oj.after, Region.binds md e = true → e.on ≠ i) → oi.apart ops oj = true) →
      i ∈ Region.ready md ops listed →
      (Su P W ops Z (fun k => (mk.getD i 0).testBit k) i (modeAt ms i) oi a ph fun v ph' => anyS P W md ops Z mk ms Q fuel (listed.setIfInBounds i true) (a.put oi.dst v) ph') →
      anyS P W md ops Z mk ms Q (fuel + 1) listed a ph := by
  intro fuel
  induction fuel with
  | zero =>
    intro listed a ph hs hun hshut hfree hr H
    refine ⟨fun h => (by rw [h] at hr; cases hr), fun j hj oj hoj => ?_⟩
    by_cases hji : j = i
    · subst hji; rw [hi] at hoj; cases hoj; exact H
    · exfalso
      have : ∃ v ph', anyS P W md ops Z mk ms Q 0 (listed.setIfInBounds i true) (a.put oi.dst v) ph' := by
        obtain ⟨w0, hw0⟩ := hs.some
        unfold Su at H
        split at H
        · unfold SuIn at H
          split at H
          · obtain ⟨v, _, h⟩ := H; exact ⟨v, ph, h⟩
          · obtain ⟨fs, rfl, z, f, _, h⟩ := H; exact ⟨_, _, h _ (Holds.fresh hw0)⟩
          · obtain ⟨fs, rfl, v, _, h⟩ := H; exact ⟨v, _, h⟩
          · obtain ⟨v, w', _, h⟩ := leads_some (H w0 hw0); exact ⟨v, _, h⟩
        · exact ⟨_, _, H⟩
      obtain ⟨v, ph', h0, _⟩ := this
      have := ready_mono hj hji
      rw [h0] at this
      cases this
  | succ fuel ih =>
    intro listed a ph hs hun hshut hfree hr H
    refine ⟨fun h => (by rw [h] at hr; cases hr), fun j hj oj hoj => ?_⟩
    by_cases hji : j = i
    · subst hji; rw [hi] at hoj; cases hoj; exact H
    obtain ⟨hjun, oj', hoj', hall⟩ := mem_ready.1 hj
    rw [hoj] at hoj'; cases hoj'
    have hiun := (mem_ready.1 hr).1
    have hnot : ∀ e ∈ oj.after, Region.binds md e = true → e.on ≠ i := fun e he hb heq => by
      have h1 := hall e he hb
      rw [heq, getD_mix hiun] at h1; cases h1
    have hap := hfree j oj hoj hji hjun hnot
    obtain ⟨p1, p2, p3⟩ := Oper.apart_spec hap
    have hwij : ¬ Waits md ops i j := fun h => h.not_ready hshut hiun hj
    have hwji : ¬ Waits md ops j i := fun h => h.not_ready hshut hjun hr
    have hsw : swaps2 (modeAt ms i) (modeAt ms j) = true := by
      rcases hfit i j (ready_lt hr) (ready_lt hj) (Ne.symm hji) with h | h | h
      · exact h
      · exact (hwij h).elim
      · exact (hwji h).elim
    have hfree' : ∀ k ok, ops[k]? = some ok → k ≠ i → (listed.setIfInBounds j true).getD k true = false →
        (∀ e ∈ ok.after, Region.binds md e = true → e.on ≠ i) → oi.apart ops ok = true := fun k ok hk hki hun hno => by
      refine hfree k ok hk hki ?_ hno
      by_cases hjk : j = k
      · subst hjk; exact hjun
      · rw [getD_set_ne true hjk] at hun; exact hun
    have H2 : Su P W ops Z (fun k => (mk.getD i 0).testBit k) i (modeAt ms i) oi a ph fun v ph1 => Su P W ops Z (fun k => (mk.getD j 0).testBit k) j (modeAt ms j) oj a ph1 fun u ph2 =>
        anyS P W md ops Z mk ms Q fuel ((listed.setIfInBounds i true).setIfInBounds j true) ((a.put oi.dst v).put oj.dst u) ph2 :=
      Su_mono hZ hs (fun v ph1 _ _ h => (Su_put (fun cs b => hsel j oj cs b hoj) p1).1 (h.2 j (ready_mono hj hji) oj hoj)) H
    have hD : ∀ x y, ¬ Waits md ops x y → (mk.getD y 0).testBit x = false := fun x y h => by
      cases hb : (mk.getD y 0).testBit x with
      | false => rfl
      | true => exact (h (hmk _ _ hb)).elim
    refine Su_mono hZ hs (fun u ph1 hs1 hk1 h => ?_) (Su_swap hZ (Ne.symm hji) (hD j i hwji) (hD i j hwij) hsw hs (hun i hiun) (hun j hjun) H2)
    refine ih (listed.setIfInBounds j true) (a.put oj.dst u) ph1 hs1 (fun k hk => ?_) (hshut.set hj) hfree' (ready_mono hr (Ne.symm hji)) ?_
    · by_cases hjk : j = k
      · subst hjk
        rw [Array.getD_eq_getD_getElem?] at hk hjun
        rcases Nat.lt_or_ge j listed.size with h' | h'
        · simp [h'] at hk
        · simp [h'] at hjun
      · rw [getD_set_ne true hjk] at hk
        exact hk1 k (Ne.symm hjk) (hun k hk)
    refine (Su_put (fun cs b => hsel i oi cs b hi) p3).2 (Su_mono hZ hs1 (fun v ph2 _ _ h' => ?_) h)
    rw [Array.setIfInBounds_comm _ _ hji, ← Act.put_comm a v u p2]
    exact h'

/-! ### The walk in the order of the text -/

def wpSoft (P : Program) (W : World) (ops : Array Oper) (Z : World → Prop) (mk : List Nat) (Q : Act → World → Prop) : List Oper → List Nat → Nat → Act → Ph → Prop
  | [], _, _, a, ph => ∀ w, ph.J W w → Q a w
  | o :: r, ms, k, a, ph => Su P W ops Z (fun x => (mk.getD k 0).testBit x) k (modeAt ms 0) o a ph fun v ph' => wpSoft P W ops Z mk Q r ms.tail (k + 1) (a.put o.dst v) ph'

theorem anyS_lex {mk ms : List Nat} {Q : Act → World → Prop} (hZ : ∀ w, Below W.heap.size W w → Z w) (hs : Region.noSelect ops = true) (hfit : Fits2 md ops ms)
    (hmk : ∀ j k, (mk.getD j 0).testBit k = true → Waits md ops k j) : ∀ (l : List Oper) (k : Nat) (listed : Array Bool) (a : Act) (ph : Ph), Stand W Z ph → (∀ k, listed.getD k true = false → ph.un k) → Shut md ops listed → (∀ j, l[j]? = ops[k + j]?) →
    Region.lexFrom md ops l.length k listed = true → wpSoft P W ops Z mk Q l (ms.drop k) k a ph → anyS P W md ops Z mk ms Q l.length listed a ph
  | [], _, _, _, _, _, _, _, _, hB, h => ⟨by simpa [Region.lexFrom] using hB, h⟩
  | o :: l, k, listed, a, ph, hst, hun, hshut, hl, hB, h => by
    have h0 : ops[k]? = some o := by simpa using (hl 0).symm
    simp only [List.length_cons, Region.lexFrom, Bool.and_eq_true] at hB
    obtain ⟨⟨hr, hf⟩, hB'⟩ := hB
    have hr' : k ∈ Region.ready md ops listed := by simpa using hr
    have hmode : modeAt (ms.drop k) 0 = modeAt ms k := by simp [modeAt, List.getD_eq_getElem?_getD, List.getElem?_drop]
    simp only [wpSoft, hmode, List.tail_drop] at h
    refine anyS_first hZ h0 (Region.noSelect_spec hs) hfit hmk l.length listed a ph hst hun hshut (Region.free_spec h0 hf) hr' ?_
    refine Su_mono hZ hst (fun v ph1 hs1 hk1 h' => anyS_lex hZ hs hfit hmk l (k + 1) _ _ _ hs1 (fun j hj => ?_) (hshut.set hr') (fun j => by have := hl (j + 1); simpa [Nat.add_assoc, Nat.add_comm 1 j] using this) hB' h') h
    by_cases hjk : k = j
    · subst hjk
      have hjun := (mem_ready.1 hr').1
      rcases Nat.lt_or_ge k listed.size with h' | h'
      · simp [h'] at hj
      · simp [h'] at hjun
    · rw [getD_set_ne true hjk] at hj
      exact hk1 j (Ne.symm hjk) (hun j hj)

def pairsS (mk : List Nat) (ms : List Nat) : Nat → Bool
  | 0 => true
  | j + 1 => (List.range j).all (fun i => swaps2 (modeAt ms i) (modeAt ms j) || (mk.getD j 0).testBit i) && pairsS mk ms j
def softB (md : Region.Mode) (l : List Oper) (ms : List Nat) : Bool :=
  lexQ md l && (ms.length == l.length) && pairsS (masks md [] l) ms l.length && (l.zip ms).all fun x => x.2 != 1 || valued x.1.op
theorem pairsS_spec {mk ms : List Nat} : ∀ {n : Nat}, pairsS mk ms n = true → ∀ j i, j < n → i < j → swaps2 (modeAt ms i) (modeAt ms j) = true ∨ (mk.getD j 0).testBit i = true
  | 0, _, j, i, hj, _ => by omega
  | n + 1, h, j, i, hj, hi => by
    simp only [pairsS, Bool.and_eq_true, List.all_eq_true, List.mem_range, Bool.or_eq_true] at h
    by_cases hjn : j = n
    · subst hjn; exact h.1 i hi
    · exact pairsS_spec h.2 j i (by omega) hi
theorem swaps2_symm {x y : Nat} (h : swaps2 x y = true) : swaps2 y x = true := by
  have k : ∀ n, swaps2 n 1 = true := fun n => match n with | 0 => rfl | 1 => rfl | 2 => rfl | 3 => rfl | 4 => rfl | n + 5 => rfl
  by_cases hx : x = 1
  · subst hx; exact k y
  by_cases hy : y = 1
  · subst hy; rfl
  match x, y, hx, hy, h with
  | 3, 3, _, _, _ => rfl
  | 3, 4, _, _, _ => rfl
  | 4, 3, _, _, _ => rfl
  | 4, 4, _, _, _ => rfl
  | 0, 0, _, _, h => simp [swaps2] at h
  | 0, n + 2, _, _, h => simp [swaps2] at h
  | 2, 0, _, _, h => simp [swaps2] at h
  | 2, n + 2, _, _, h => simp [swaps2] at h
  | 3, 0, _, _, h => simp [swaps2] at h
  | 3, 2, _, _, h => simp [swaps2] at h
  | 3, n + 5, _, _, h => simp [swaps2] at h
  | 4, 0, _, _, h => simp [swaps2] at h
  | 4, 2, _, _, h => simp [swaps2] at h
  | 4, n + 5, _, _, h => simp [swaps2] at h
  | n + 5, 0, _, _, h => simp [swaps2] at h
  | n + 5, k + 2, _, _, h => simp [swaps2] at h

def noMade : Made := fun _ => none
/-- **A REGION THAT DRAWS ITS ORDER AND MAKES MEMORY, WALKED ONCE.** -/
theorem wp_region_soft {id : Nat} {Q : Exit → Act → World → Prop} {a : Act} {w : World} {l : List Oper} (S : Nat → Prop) (ms : List Nat) (hm : P.follows .mixedOrders = true) (hB : softB .any l ms = true)
    (hS : ∀ b, S b → b < w.heap.size) (h : wpSoft P w l.toArray (InExt S w) (masks .any [] l) (Q .normal) l ms 0 a (.soft noMade)) : (Code.region id l.toArray true).wp P Q a w := by
  simp only [softB, Bool.and_eq_true] at hB
  obtain ⟨⟨⟨hB, hlen⟩, hpairs⟩, _⟩ := hB
  have hB := lexB_of_Q hB
  simp only [Region.lexB, Bool.and_eq_true] at hB
  obtain ⟨hs, hlex⟩ := hB
  have hmk : ∀ j i, ((masks .any [] l).getD j 0).testBit i = true → Waits .any l.toArray i j :=
    masks_spec l [] (fun j hj => by simp) (fun j i h => by simp at h)
  have hfit : Fits2 .any l.toArray ms := fun i j hi hj hij => by
    have hi' : i < l.length := by simpa using hi
    have hj' : j < l.length := by simpa using hj
    rcases Nat.lt_or_gt_of_ne hij with h' | h'
    · rcases pairsS_spec hpairs j i hj' h' with h1 | h1
      · exact .inl h1
      · exact .inr (.inl (hmk _ _ h1))
    · rcases pairsS_spec hpairs i j hi' h' with h1 | h1
      · exact .inl (swaps2_symm h1)
      · exact .inr (.inr (hmk _ _ h1))
  have hZ : ∀ w', Below w.heap.size w w' → InExt S w w' := fun w' hb => (InExt.refl S w).below hS hb
  have hJ : Holds w allOf noMade w.drew := ⟨(Below.refl _ _).drew, fun i b z _ he => by cases he⟩
  refine wp_region_any hm (any_of_anyS (W := w) (Z := InExt S w) (mk := masks .any [] l) (ms := ms) hZ _ _ _ (.soft noMade) _ hJ (Stand.soft hZ hJ) ?_)
  have := anyS_lex (P := P) (W := w) (Z := InExt S w) (md := .any) (ops := l.toArray) (Q := Q .normal) hZ hs hfit hmk l 0 (Array.replicate l.toArray.size false) a (.soft noMade) (Stand.soft hZ hJ) (fun k _ fs e => by cases e; rfl) (fun j o ho hj => by rw [getD_replicate_mix] at hj; cases hj) (fun j => by simp) (by simpa using hlex) (by simpa using h)
  simpa using this

/-- The modes by the operations' kinds. -/
def sd (o : Oper) : Nat :=
  match o.op with
  | .alloc .. | .buildSlice .. => 3
  | .call { callee := .value .., .. } => 4
  | op => bif valued op then 1 else 0

theorem wp_region_made {id : Nat} {Q : Exit → Act → World → Prop} {a : Act} {w : World} {l : List Oper} (hm : P.follows .mixedOrders = true) (hB : softB .any l (l.map sd) = true)
    (h : wpSoft P w l.toArray (InExt (fun b => b < w.heap.size) w) (masks .any [] l) (Q .normal) l (l.map sd) 0 a (.soft noMade)) : (Code.region id l.toArray true).wp P Q a w :=
  wp_region_soft (fun b => b < w.heap.size) _ hm hB (fun _ h => h) h
end
section
variable {P : Program} {ops : Array Oper} {S : Nat → Prop} {W : World} {mk : List Nat} {Q : Act → World → Prop} {a : Act} {ph : Ph} {fs : Made} {o : Oper} {r : List Oper} {md : Oper → Nat} {k : Nat}
theorem sx_nil (h : ∀ w, ph.J W w → Q a w) : wpSoft P W ops (InExt S W) mk Q [] ([].map md) k a ph := h
theorem sx_free (hm : md o = 1) (hw : Region.wanted o (yielded ops a.tmps) = true) (hv : valued o.op = true)
    (h : ∀ K : Act → Prop, (∀ a', wpSoft P W ops (InExt S W) mk Q r (r.map md) (k + 1) a' ph → K a') → o.quiet P a (fun w' => ∃ x : Ext S W, w' = x.1) K) : wpSoft P W ops (InExt S W) mk Q (o :: r) ((o :: r).map md) k a ph := by
  rw [List.map_cons, hm]
  show Su P W ops _ _ k 1 o a ph _
  unfold Su
  rw [if_pos hw]
  obtain ⟨v, h1, h2⟩ := h (fun a' => wpSoft P W ops (InExt S W) mk Q r (r.map md) (k + 1) a' ph) (fun _ h => h)
  exact ⟨v, fun w' hz => keeps_of_quiet hv (h1 w' ⟨⟨w', hz⟩, rfl⟩), h2⟩
theorem sx_skip {j : Nat} {b : Bool} (_hg : o.guard = some (j, b)) (hw : Region.wanted o (yielded ops a.tmps) = false) (h : wpSoft P W ops (InExt S W) mk Q r (r.map md) (k + 1) (a.put o.dst undef) ph) : wpSoft P W ops (InExt S W) mk Q (o :: r) ((o :: r).map md) k a ph := by
  rw [List.map_cons]
  show Su P W ops _ _ k (md o) o a ph _
  unfold Su
  rw [if_neg (by rw [hw]; exact Bool.false_ne_true)]
  exact h
theorem sx_make (hm : md o = 3) (hw : Region.wanted o (yielded ops a.tmps) = true) {z : Obj} {f : Nat → Value} (h1 : makesAt P o a z f)
    (h2 : ∀ b, W.heap.size ≤ b → Fresh W fs b → wpSoft P W ops (InExt S W) mk Q r (r.map md) (k + 1) (a.put o.dst (f b)) (.soft (fs.put k (b, z)))) : wpSoft P W ops (InExt S W) mk Q (o :: r) ((o :: r).map md) k a (.soft fs) := by
  rw [List.map_cons, hm]
  show Su P W ops _ _ k 3 o a (.soft fs) _
  unfold Su
  rw [if_pos hw]
  exact ⟨fs, rfl, z, f, h1, fun b hb => h2 b hb.new hb⟩
theorem sx_alloc (hm : md o = 3) (hw : Region.wanted o (yielded ops a.tmps) = true) {cs : Array Value} {t : TypeId} (h1 : ∀ w : World, (execOp a.eval o).run P w = .ok (.value (.pointer (some ⟨w.heap.size, 0, none⟩))) (w.alloc (.cells cs t (0, 0))))
    (h2 : ∀ b, W.heap.size ≤ b → Fresh W fs b → wpSoft P W ops (InExt S W) mk Q r (r.map md) (k + 1) (a.put o.dst (.pointer (some ⟨b, 0, none⟩))) (.soft (fs.put k (b, .cells cs t (0, 0))))) : wpSoft P W ops (InExt S W) mk Q (o :: r) ((o :: r).map md) k a (.soft fs) :=
  sx_make hm hw (z := .cells cs t (0, 0)) (f := fun b => .pointer (some ⟨b, 0, none⟩)) h1 h2
theorem sx_give (hm : md o = 4) (hw : Region.wanted o (yielded ops a.tmps) = true) (v : Value)
    (h1 : ∀ w, Below W.heap.size W w → Holds W (fun x => (mk.getD k 0).testBit x) fs w → gives P o a w v)
    (h2 : wpSoft P W ops (InExt S W) mk Q r (r.map md) (k + 1) (a.put o.dst v) (.soft fs)) : wpSoft P W ops (InExt S W) mk Q (o :: r) ((o :: r).map md) k a (.soft fs) := by
  rw [List.map_cons, hm]
  show Su P W ops _ _ k 4 o a (.soft fs) _
  unfold Su
  rw [if_pos hw]
  exact ⟨fs, rfl, v, fun w hw => h1 w hw.below hw, h2⟩
theorem sx_move (hm : md o = 0) (hw : Region.wanted o (yielded ops a.tmps) = true)
    (h : ∀ w, ph.J W w → ∀ K : Act → World → Prop, (∀ a' w', (a'.defers = a.defers ∧ InExt S W w' ∧ wpSoft P W ops (InExt S W) mk Q r (r.map md) (k + 1) a' (.hard w')) → K a' w') → o.wp P a w K (fun _ _ _ => False)) : wpSoft P W ops (InExt S W) mk Q (o :: r) ((o :: r).map md) k a ph := by
  rw [List.map_cons, hm]
  show Su P W ops _ _ k 0 o a ph _
  unfold Su
  rw [if_pos hw]
  intro w hj
  exact leads_of_wp (R := fun a' w' => InExt S W w' ∧ wpSoft P W ops (InExt S W) mk Q r (r.map md) (k + 1) a' (.hard w')) (h w hj _ fun _ _ h => h)
theorem gives_of_calls {w : World} {v : Value} {f : FuncId} {args : Array Value} (he : (execOp a.eval o).run P w = .ok (.enter f args) w) (hi : P.inits.idxOf? f = none)
    (h : Calls P f args w fun e w' => e = .returned v ∧ Below w.heap.size w w') : gives P o a w v := by
  unfold gives
  rw [he]
  exact ⟨rfl, hi, h⟩
theorem gives_of {w : World} {v : Value}
    (h : ∀ G : FuncId → Array Value → Prop, (∀ f args, P.inits.idxOf? f = none → (Calls P f args w fun e w' => e = .returned v ∧ Below w.heap.size w w') → G f args) →
      match (execOp a.eval o).run P w with
      | .ok (.enter f args) w' => w' = w ∧ G f args
      | _ => False) : gives P o a w v := by
  have := h (fun f args => P.inits.idxOf? f = none ∧ Calls P f args w fun e w' => e = .returned v ∧ Below w.heap.size w w') (fun f args h1 h2 => ⟨h1, h2⟩)
  unfold gives
  generalize (execOp a.eval o).run P w = r at *
  cases r with
  | ok n w' => cases n <;> first | exact this | exact this.elim
  | halt x w' => exact this.elim
theorem Holds.uncover {fs : Made} {w : World} {k b : Nat} {z : Obj} (hn : fs k = none) (h : Holds W allOf (fs.put k (b, z)) w) : (W.heap.size ≤ b ∧ w.heap[b]? = some z) ∧ Holds W allOf fs w :=
  ⟨h.made k b z rfl (by unfold Made.put; rw [if_pos rfl]), h.below, fun i c y _ he => h.made i c y rfl (by
    unfold Made.put
    by_cases hi : i = k
    · subst hi; rw [hn] at he; cases he
    · rw [if_neg hi]; exact he)⟩
theorem Locs.set {b : Nat} {v : Value} {w : World} : ∀ {l : List (Nat × Array Value × TypeId)}, Locs w l → (∀ x ∈ l, x.1 ≠ b) → Locs (w.setCell ⟨b, 0, none⟩ v) l
  | [], _, _ => trivial
  | (c, cs, t) :: l, h, hne => ⟨(heap_setCell_get w ⟨b, 0, none⟩ v c (hne (c, cs, t) (by simp))).trans h.1, Locs.set h.2 fun x hx => hne x (by simp [hx])⟩
/-- A block that was made, and is stored into. -/
theorem Locs.made {l : List (Nat × Array Value × TypeId)} {w : World} {b : Nat} {cs : Array Value} {t : TypeId} (hl : Locs w l) (hw : w.heap[b]? = some (.cells cs t (0, 0)))
    (hne : ∀ x ∈ l, x.1 ≠ b) (v : Value) : Locs (w.setCell ⟨b, 0, none⟩ v) ((b, cs.setIfInBounds 0 v, t) :: l) := by
  refine ⟨?_, Locs.set hl hne⟩
  have hb := heap_lt hw
  show (w.heap.modify b _)[b]? = _
  rw [Array.getElem?_modify, if_pos rfl, hw]
  rfl
theorem Locs.old {l : List (Nat × Array Value × TypeId)} {W : World} (h : Locs W l) {b : Nat} (hb : W.heap.size ≤ b) : ∀ x ∈ l, x.1 ≠ b := by
  induction l with
  | nil => intro x hx; cases hx
  | cons y l ih =>
    obtain ⟨c, cs, t⟩ := y
    intro x hx
    rcases List.mem_cons.1 hx with rfl | hx
    · have := heap_lt h.1
      simp only
      omega
    · exact ih h.2 x hx
/-- One block made, and stored into, beside others. -/
theorem Locs.one {l : List (Nat × Array Value × TypeId)} {W w : World} (hl : Locs W l) (hb : Below W.heap.size W w) {b : Nat} {cs : Array Value} {t : TypeId} (hn : W.heap.size ≤ b) (hw : w.heap[b]? = some (.cells cs t (0, 0))) (v : Value) :
    Locs (w.setCell ⟨b, 0, none⟩ v) ((b, cs.setIfInBounds 0 v, t) :: l) := (hl.below hb).made hw (hl.old hn) v
/-- Two blocks made, and stored into. -/
theorem Locs.two {l : List (Nat × Array Value × TypeId)} {W w : World} (hl : Locs W l) (hb : Below W.heap.size W w) {b c : Nat} {cs ds : Array Value} {t u : TypeId} (hn : W.heap.size ≤ b) (hw : w.heap[b]? = some (.cells cs t (0, 0)))
    (hn' : W.heap.size ≤ c) (hw' : w.heap[c]? = some (.cells ds u (0, 0))) (hbc : b ≠ c) (v x : Value) :
    Locs ((w.setCell ⟨b, 0, none⟩ v).setCell ⟨c, 0, none⟩ x) ((c, ds.setIfInBounds 0 x, u) :: (b, cs.setIfInBounds 0 v, t) :: l) := by
  refine Locs.made (hl.one hb hn hw v) ?_ ?_ x
  · rw [heap_setCell_get _ _ _ _ (Ne.symm hbc)]; exact hw'
  · intro y hy
    rcases List.mem_cons.1 hy with rfl | hy
    · exact hbc
    · exact hl.old hn' y hy
theorem Fresh.ne {fs : Made} {b c : Nat} {k : Nat} {z : Obj} (h : Fresh W (fs.put k (c, z)) b) : c ≠ b := h.other k c z (by unfold Made.put; rw [if_pos rfl])
/-- Four cells written. -/
@[reducible] def put4 (w : World) (b : Nat) (x0 x1 x2 x3 : Value) : World := (((w.setCell ⟨b, 0, none⟩ x0).setCell ⟨b, 1, none⟩ x1).setCell ⟨b, 2, none⟩ x2).setCell ⟨b, 3, none⟩ x3
theorem put4_other (w : World) (b : Nat) (x0 x1 x2 x3 : Value) (c : Nat) (h : c ≠ b) : (put4 w b x0 x1 x2 x3).heap[c]? = w.heap[c]? := by
  unfold put4
  rw [heap_setCell_get _ _ _ _ h, heap_setCell_get _ _ _ _ h, heap_setCell_get _ _ _ _ h, heap_setCell_get _ _ _ _ h]
theorem heap_setCell_same {w : World} {b o : Nat} {cs : Array Value} {t : TypeId} (h : w.heap[b]? = some (.cells cs t (0, 0))) (v : Value) : (w.setCell ⟨b, o, none⟩ v).heap[b]? = some (.cells (cs.setIfInBounds o v) t (0, 0)) := by
  show (w.heap.modify b _)[b]? = _
  rw [Array.getElem?_modify, if_pos rfl, h]
  rfl
theorem put4_same {w : World} {b : Nat} {y0 y1 y2 y3 : Value} {t : TypeId} (h : w.heap[b]? = some (.cells #[y0, y1, y2, y3] t (0, 0))) (x0 x1 x2 x3 : Value) : (put4 w b x0 x1 x2 x3).heap[b]? = some (.cells #[x0, x1, x2, x3] t (0, 0)) := by
  unfold put4
  rw [heap_setCell_same (heap_setCell_same (heap_setCell_same (heap_setCell_same h x0) x1) x2) x3]
  rfl
theorem Locs.others {w w' : World} : ∀ {l : List (Nat × Array Value × TypeId)}, Locs w l → (∀ x ∈ l, w'.heap[x.1]? = w.heap[x.1]?) → Locs w' l
  | [], _, _ => trivial
  | (c, cs, t) :: _, h, he => ⟨(he (c, cs, t) (by simp)).trans h.1, Locs.others h.2 fun x hx => he x (by simp [hx])⟩
theorem Locs.four1 {l : List (Nat × Array Value × TypeId)} {W w : World} (hl : Locs W l) (hb : Below W.heap.size W w) {b : Nat} {y0 y1 y2 y3 : Value} {t : TypeId} (hn : W.heap.size ≤ b) (hw : w.heap[b]? = some (.cells #[y0, y1, y2, y3] t (0, 0))) (x0 x1 x2 x3 : Value) :
    Locs (put4 w b x0 x1 x2 x3) ((b, #[x0, x1, x2, x3], t) :: l) :=
  ⟨put4_same hw _ _ _ _, Locs.others (hl.below hb) fun x hx => put4_other _ _ _ _ _ _ _ (hl.old hn x hx)⟩
theorem Locs.four2 {l : List (Nat × Array Value × TypeId)} {W w : World} (hl : Locs W l) (hb : Below W.heap.size W w) {b c : Nat} {y0 y1 y2 y3 z0 z1 z2 z3 : Value} {t u : TypeId} (hn : W.heap.size ≤ b) (hw : w.heap[b]? = some (.cells #[y0, y1, y2, y3] t (0, 0)))
    (hn' : W.heap.size ≤ c) (hw' : w.heap[c]? = some (.cells #[z0, z1, z2, z3] u (0, 0))) (hbc : b ≠ c) (x0 x1 x2 x3 v0 v1 v2 v3 : Value) :
    Locs (put4 (put4 w b x0 x1 x2 x3) c v0 v1 v2 v3) ((c, #[v0, v1, v2, v3], u) :: (b, #[x0, x1, x2, x3], t) :: l) := by
  refine ⟨put4_same (by rw [put4_other _ _ _ _ _ _ _ (Ne.symm hbc)]; exact hw') _ _ _ _, (put4_other _ _ _ _ _ _ _ hbc).trans (put4_same hw _ _ _ _), Locs.others (hl.below hb) fun x hx => ?_⟩
  rw [put4_other _ _ _ _ _ _ _ (hl.old hn' x hx), put4_other _ _ _ _ _ _ _ (hl.old hn x hx)]
theorem Below.put4 {B : Nat} {a w : World} (h : Below B a w) {b : Nat} (hb : B ≤ b) (x0 x1 x2 x3 : Value) : Below B a (put4 w b x0 x1 x2 x3) :=
  (((h.setCell hb x0).setCell hb x1).setCell hb x2).setCell hb x3
theorem InExt.put4 {W w : World} {n : Nat} (h : InExt (fun b => b < n) W w) {b : Nat} (hb : n ≤ b) (x0 x1 x2 x3 : Value) : InExt (fun b => b < n) W (put4 w b x0 x1 x2 x3) :=
  (((h.setCell (p := ⟨b, 0, none⟩) (Nat.not_lt.2 hb) x0).setCell (p := ⟨b, 1, none⟩) (Nat.not_lt.2 hb) x1).setCell (p := ⟨b, 2, none⟩) (Nat.not_lt.2 hb) x2).setCell (p := ⟨b, 3, none⟩) (Nat.not_lt.2 hb) x3
/-- The region, its world held by what is known of it. -/
theorem wp_made {P : Program} {id : Nat} {Q : Exit → Act → World → Prop} {a : Act} {w0 w : World} {l : List (Nat × Array Value × TypeId)} {os : List Oper} (L : Locs w l) (B : Below w0.heap.size w0 w) (hm : P.follows .mixedOrders = true) (hB : softB .any os (os.map sd) = true)
    (h : ∀ W, Locs W l → Below w0.heap.size w0 W → wpSoft P W os.toArray (InExt (fun b => b < W.heap.size) W) (masks .any [] os) (Q .normal) os (os.map sd) 0 a (.soft noMade)) : (Code.region id os.toArray true).wp P Q a w :=
  wp_region_made hm hB (h w L B)
/-- .. and its end. -/
theorem sx_done {w0 w : World} {l : List (Nat × Array Value × TypeId)} (L : Locs w l) (B : Below w0.heap.size w0 w) (h : ∀ w', Locs w' l → Below w0.heap.size w0 w' → Q a w') : wpSoft P W ops (InExt S W) mk Q [] [] k a (.hard w) := fun w' e => by
  cases e
  exact h w L B
theorem Locs.ext {w w' : World} {l : List (Nat × Array Value × TypeId)} (h : Locs w l) (X : InExt (fun b => b < w.heap.size) w w') : Locs w' l := by
  refine Locs.others h fun x hx => ?_
  have hlt : x.1 < w.heap.size := by
    rcases Nat.lt_or_ge x.1 w.heap.size with h' | h'
    · exact h'
    · exact (h.old h' x hx rfl).elim
  exact X.old _ hlt
/-- A region that only reads and calls, its world held by what is known of it. -/
theorem wp_heldR {P : Program} {id : Nat} {Q : Exit → Act → World → Prop} {a : Act} {w0 w : World} {l : List (Nat × Array Value × TypeId)} {os : List Oper} (L : Locs w l) (B : Below w0.heap.size w0 w) (hm : P.follows .mixedOrders = true) (hB : mixB .any os (os.map hd) = true)
    (h : ∀ W w', Locs W l → InExt (fun b => b < W.heap.size) W w' → Below w0.heap.size w0 w' → wpMix P os.toArray (InExt (fun b => b < W.heap.size) W) (Q .normal) os (os.map hd) a w') : (Code.region id os.toArray true).wp P Q a w :=
  wp_region_held (fun b => b < w.heap.size) hm hB (h w w.drew L (InExt.refl _ _).drew B.drew)
theorem hx_done {P : Program} {ops : Array Oper} {Q : Act → World → Prop} {a : Act} {w0 W w : World} {l : List (Nat × Array Value × TypeId)} (L : Locs W l) (X : InExt (fun b => b < W.heap.size) W w) (B : Below w0.heap.size w0 w) (h : ∀ w', Locs w' l → Below w0.heap.size w0 w' → Q a w') {Z : World → Prop} {md : Oper → Nat} : wpMix P ops Z Q [] ([].map md) a w :=
  mix_nil (h w (L.ext X) B)
end
attribute [irreducible] wpSoft
end Go.Flo

/-! Plain words: a number below 2^256 as Go's [4]uint64, and what its four words are. No program is named here. -/
namespace Go.Flo
open Go Go.RowKit

/-- 2^256, under a name. -/
@[irreducible] def top : Nat := 115792089237316195423570985008687907853269984665640564039457584007913129639936
theorem top_eq : top = 115792089237316195423570985008687907853269984665640564039457584007913129639936 := by unfold top; rfl
theorem top_pow : top = 2 ^ 256 := by rw [top_eq]

@[irreducible] def l0 (n : Nat) : Int := ((n % 18446744073709551616 : Nat) : Int)
@[irreducible] def l1 (n : Nat) : Int := ((n / 18446744073709551616 % 18446744073709551616 : Nat) : Int)
@[irreducible] def l2 (n : Nat) : Int := ((n / 340282366920938463463374607431768211456 % 18446744073709551616 : Nat) : Int)
@[irreducible] def l3 (n : Nat) : Int := ((n / 6277101735386680763835789423207666416102355444464034512896 % 18446744073709551616 : Nat) : Int)

/-- A number as [4]uint64. -/
abbrev uV (n : Nat) : Value := .agg #[.int .u64 (l0 n), .int .u64 (l1 n), .int .u64 (l2 n), .int .u64 (l3 n)]

/-- A word. -/
structure Wd (x : Int) : Prop where
  lo : 0 ≤ x
  hi : x < 18446744073709551616

/-- A carry. -/
structure Cy (x : Int) : Prop where
  lo : 0 ≤ x
  hi : x ≤ 1
structure Sums (s d x y c : Int) : Prop where
  eq : s + 18446744073709551616 * d = x + y + c
structure Diffs (s d x y c : Int) : Prop where
  eq : s - 18446744073709551616 * d = x - y - c
theorem Cy.zero : Cy 0 := ⟨by decide, by decide⟩
theorem Cy.cases {c : Int} (h : Cy c) : c = 0 ∨ c = 1 := by obtain ⟨_, _⟩ := h; omega

/-- Four words are a number. -/
structure Is4 (n : Nat) (a b c d : Int) : Prop where
  wa : Wd a
  wb : Wd b
  wc : Wd c
  wd : Wd d
  eq : (n : Int) = a + 18446744073709551616 * b + 340282366920938463463374607431768211456 * c + 6277101735386680763835789423207666416102355444464034512896 * d

theorem is4_of {n : Nat} (h : n < top) : Is4 n (l0 n) (l1 n) (l2 n) (l3 n) := by
  rw [top_eq] at h
  unfold l0 l1 l2 l3
  refine ⟨⟨?_, ?_⟩, ⟨?_, ?_⟩, ⟨?_, ?_⟩, ⟨?_, ?_⟩, ?_⟩ <;> omega

theorem Is4.lt {n : Nat} {a b c d : Int} (h : Is4 n a b c d) : n < top := by
  rw [top_eq]
  obtain ⟨⟨_, _⟩, ⟨_, _⟩, ⟨_, _⟩, ⟨_, _⟩, h⟩ := h
  omega

theorem Is4.uV {n : Nat} {a b c d : Int} (h : Is4 n a b c d) : Value.agg #[.int .u64 a, .int .u64 b, .int .u64 c, .int .u64 d] = Flo.uV n := by
  obtain ⟨⟨_, _⟩, ⟨_, _⟩, ⟨_, _⟩, ⟨_, _⟩, h⟩ := h
  have e0 : l0 n = a := by unfold l0; omega
  have e1 : l1 n = b := by unfold l1; omega
  have e2 : l2 n = c := by unfold l2; omega
  have e3 : l3 n = d := by unfold l3; omega
  rw [← e0, ← e1, ← e2, ← e3]

/-- Four words are some number. -/
theorem is4_made {a b c d : Int} (ha : Wd a) (hb : Wd b) (hc : Wd c) (hd : Wd d) : ∃ n, Is4 n a b c d := by
  refine ⟨(a + 18446744073709551616 * b + 340282366920938463463374607431768211456 * c + 6277101735386680763835789423207666416102355444464034512896 * d).toNat, ha, hb, hc, hd, ?_⟩
  obtain ⟨_, _⟩ := ha; obtain ⟨_, _⟩ := hb; obtain ⟨_, _⟩ := hc; obtain ⟨_, _⟩ := hd
  omega

/-- Compared. -/
@[irreducible] def cmpI (m n : Nat) : Int := if m < n then -1 else if n < m then 1 else 0

theorem ret_congr {a b : Value} (h : a = b) : Ending.returned a = Ending.returned b := by rw [h]
end Go.Flo

/-! '==' on arrays: element by element. No program is named here. -/
namespace Go.Flo
open Go
section
variable {P : Program} (w : World)

theorem loop_all (b : Nat → Bool) (f : Nat → (Option Bool × Unit) → Sem (ForInStep (Option Bool × Unit))) : ∀ (k i : Nat), (∀ j, i ≤ j → j < i + k → ∀ s, (f j s).run P w = .ok (if b j = true then .yield (none, ()) else .done (some false, ())) w) →
    (forIn (List.range' i k) (none, ()) f).run P w = .ok (if (List.range' i k).all b = true then (none, ()) else (some false, ())) w
  | 0, i, _ => by simp
  | k + 1, i, h => by
    have ih := loop_all b f k (i + 1) (fun j h1 h2 => h j (by omega) (by omega))
    rw [List.range'_succ, List.forIn_cons, Sem.run_bind, h i (Nat.le_refl _) (by omega), Result.andThen_ok]
    cases hb : b i
    · simp [hb]
    · simp only [if_true, List.all_cons, hb, Bool.true_and]
      exact ih

theorem run_equalIn_array (d n s : Nat) (t e : TypeId) (xs ys : Array Value) (X Y : Nat → Value) (b : Nat → Bool) (ht : P.underlying t = some (.array n e)) (hs : (Go.sizeOf e).run P w = .ok s w)
    (hX : ∀ i, i < n → (part e xs (i * s)).run P w = .ok (X i) w) (hY : ∀ i, i < n → (part e ys (i * s)).run P w = .ok (Y i) w)
    (hb : ∀ i, i < n → (Op.equalIn d e (X i) (Y i)).run P w = .ok (b i) w) :
    (Op.equalIn (d + 1) t (.agg xs) (.agg ys)).run P w = .ok ((List.range n).all b) w := by
  unfold Op.equalIn
  simp only [Sem.run_bind, run_underlying ht, Result.andThen_ok, hs]
  simp
  rw [loop_all w b _ n 0 (fun j _ hj s' => by
    rw [Sem.run_bind, hX j (by omega), Result.andThen_ok, Sem.run_bind, hY j (by omega), Result.andThen_ok, Sem.run_bind, hb j (by omega), Result.andThen_ok]
    cases b j <;> rfl)]
  rw [List.range_eq_range', Result.andThen_ok]
  cases (List.range' 0 n).all b <;> rfl

theorem part_one {e : TypeId} {cs : Array Value} {i : Nat} {v : Value} (ha : (isAgg e).run P w = .ok false w) (h : cs[i]? = some v) : (part e cs i).run P w = .ok v w := by
  simp [part, ha, h]

theorem isAgg_int {e : TypeId} {k : IntKind} (he : P.underlying e = some (.int k)) : (isAgg e).run P w = .ok false w := by
  simp [isAgg, run_underlying he]

theorem all_range_eq : ∀ (xs ys : List Int), xs.length = ys.length → (List.range xs.length).all (fun i => xs.getD i 0 == ys.getD i 0) = (xs == ys)
  | [], [], _ => rfl
  | [], _ :: _, h => by simp at h
  | _ :: _, [], h => by simp at h
  | x :: xs, y :: ys, h => by
    have ih := all_range_eq xs ys (by simpa using h)
    rw [List.length_cons, List.range_succ_eq_map, List.all_cons, List.all_map]
    simp only [List.getD_cons_zero, Function.comp_def, List.getD_cons_succ]
    rw [ih]
    rfl

theorem run_equalIn_ints (d n : Nat) (t e : TypeId) (k : IntKind) (xs ys : List Int) (ht : P.underlying t = some (.array n e)) (he : P.underlying e = some (.int k)) (hs : (Go.sizeOf e).run P w = .ok 1 w)
    (hx : xs.length = n) (hy : ys.length = n) :
    (Op.equalIn (d + 2) t (.agg (xs.map (Value.int k)).toArray) (.agg (ys.map (Value.int k)).toArray)).run P w = .ok (xs == ys) w := by
  rw [run_equalIn_array w (d + 1) n 1 t e _ _ (fun i => .int k (xs.getD i 0)) (fun i => .int k (ys.getD i 0)) (fun i => xs.getD i 0 == ys.getD i 0) ht hs
    (fun i hi => part_one w (isAgg_int w he) (by simp [List.getElem?_eq_getElem (show i < xs.length by omega)]))
    (fun i hi => part_one w (isAgg_int w he) (by simp [List.getElem?_eq_getElem (show i < ys.length by omega)]))
    (fun i hi => by simp [Op.equalIn, run_underlying he])]
  congr 1
  rw [← hx]
  exact all_range_eq xs ys (by omega)

@[go_sem] theorem run_equalIn_four (d : Nat) (t : TypeId) (a b c e x y z u : Int) (p : TypeId) (ht : P.underlying t = some (.array 4 p)) (he : P.underlying p = some (.int .u64)) (hs : (Go.sizeOf p).run P w = .ok 1 w) :
    (Op.equalIn (d + 2) t (.agg #[.int .u64 a, .int .u64 b, .int .u64 c, .int .u64 e]) (.agg #[.int .u64 x, .int .u64 y, .int .u64 z, .int .u64 u])).run P w = .ok (a == x && (b == y && (c == z && e == u))) w := by
  have h := run_equalIn_ints w d 4 t p .u64 [a, b, c, e] [x, y, z, u] ht he hs rfl rfl
  have k : ([a, b, c, e] == [x, y, z, u]) = (a == x && (b == y && (c == z && e == u))) := by
    rw [Bool.eq_iff_iff]; simp
  rw [k] at h
  exact h
end
end Go.Flo

/-! An array of integers indexed. No program is named here. -/
namespace Go.Flo
open Go
section
variable {P : Program} (w : World)
theorem run_index_at (t e : TypeId) (n : Nat) (cs : Array Value) (k kk : IntKind) (i : Nat) (v : Value) (h : P.underlying t = some (.array n e)) (he : P.underlying e = some (.int kk)) (hs : (Go.sizeOf e).run P w = .ok 1 w) (hi : i < n) (hc : cs[i]? = some v) :
    (Instr.index t (.agg cs) (.int k (i : Int))).run P w = .ok v w := by
  unfold Instr.index
  simp only [asIntOf, Sem.run_bind, Sem.run_pure, Result.andThen_ok, run_underlying h]
  rw [if_pos ⟨by omega, by omega⟩]
  simp only [Sem.run_bind, hs, Result.andThen_ok]
  rw [show ((i : Int).toNat * 1) = i by omega]
  exact part_one w (isAgg_int w he) hc
@[go_sem] theorem run_index_four0 (t e : TypeId) (a b c d : Value) (k : IntKind) (h : P.underlying t = some (.array 4 e)) (he : P.underlying e = some (.int .u64)) (hs : (Go.sizeOf e).run P w = .ok 1 w) :
    (Instr.index t (.agg #[a, b, c, d]) (.int k 0)).run P w = .ok a w := run_index_at w t e 4 _ k .u64 0 a h he hs (by decide) rfl
@[go_sem] theorem run_index_four1 (t e : TypeId) (a b c d : Value) (k : IntKind) (h : P.underlying t = some (.array 4 e)) (he : P.underlying e = some (.int .u64)) (hs : (Go.sizeOf e).run P w = .ok 1 w) :
    (Instr.index t (.agg #[a, b, c, d]) (.int k 1)).run P w = .ok b w := run_index_at w t e 4 _ k .u64 1 b h he hs (by decide) rfl
@[go_sem] theorem run_index_four2 (t e : TypeId) (a b c d : Value) (k : IntKind) (h : P.underlying t = some (.array 4 e)) (he : P.underlying e = some (.int .u64)) (hs : (Go.sizeOf e).run P w = .ok 1 w) :
    (Instr.index t (.agg #[a, b, c, d]) (.int k 2)).run P w = .ok c w := run_index_at w t e 4 _ k .u64 2 c h he hs (by decide) rfl
@[go_sem] theorem run_index_four3 (t e : TypeId) (a b c d : Value) (k : IntKind) (h : P.underlying t = some (.array 4 e)) (he : P.underlying e = some (.int .u64)) (hs : (Go.sizeOf e).run P w = .ok 1 w) :
    (Instr.index t (.agg #[a, b, c, d]) (.int k 3)).run P w = .ok d w := run_index_at w t e 4 _ k .u64 3 d h he hs (by decide) rfl
end
end Go.Flo

/-! Whole arrays, by value, as one opaque row of cells. No program is named here. -/
namespace Go.Flo
open Go Go.RowKit
section
variable {P : Program} {ops : Array Oper} {rest : List Oper} {o : Oper} {a : Act} {w : World} {Q : Exit → Act → World → Prop}

/-- An array of n cells, as a type. -/
structure Rowed (P : Program) (t e : TypeId) (n : Nat) : Prop where
  under : P.underlying t = some (.array n e)
  size : (P.info? t).map (·.size) = some n

theorem wl_load (hgd : o.guard = none) (t : TypeId) (x : Operand) (ho : o.op = .load t x) {e : TypeId} {n : Nat} (ht : Rowed P t e n) {g : Nat} (hx : a.eval x = .pointer (some ⟨g, 0, none⟩)) {cs : Array Value} {u : TypeId} (hg : w.heap[g]? = some (.cells cs u (0, 0))) (hn : cs.size = n)
    (h : wpList P ops Q rest (a.put o.dst (.agg cs)) w) : wpList P ops Q (o :: rest) a w :=
  wpList_load_row hgd t x ho g hx u cs (0, 0) _ hg ht.under rfl (by rw [hn]; exact ht.size) h
theorem wl_run (hgd : o.guard = none) {v : Value} {w' : World} (hr : (execOp a.eval o).run P w = .ok (.value v) w') (h : wpList P ops Q rest (a.put o.dst v) w') : wpList P ops Q (o :: rest) a w :=
  wpList_plain hgd fun _ hK => by
    unfold Oper.wp
    rw [hr]
    exact hK _ _ h
theorem wl_skip (hgd : o.guard = none) {w' : World} (hr : (execOp a.eval o).run P w = .ok .skip w') (h : wpList P ops Q rest (a.put o.dst undef) w') : wpList P ops Q (o :: rest) a w :=
  wpList_plain hgd fun _ hK => by
    unfold Oper.wp
    rw [hr]
    exact hK _ _ h
theorem wl_store (hgd : o.guard = none) (t : TypeId) (x y : Operand) (ho : o.op = .store t x y) {e : TypeId} {n : Nat} (ht : Rowed P t e n) {g : Nat} (hx : a.eval x = .pointer (some ⟨g, 0, none⟩)) {c : Array Value} (hy : a.eval y = .agg c) {cs : Array Value} {u : TypeId} (hg : w.heap[g]? = some (.cells cs u (0, 0)))
    (hc : c.size = n) (hn : cs.size = n) (h1 : c.all (·.oneCell') = true) (h : wpList P ops Q rest (a.put o.dst undef) (w.setRow g c)) : wpList P ops Q (o :: rest) a w := by
  refine wl_skip hgd ?_ h
  unfold execOp
  simp only [ho, hx, hy, Instr.storeAt, Instr.sureAddr, Sem.run_bind, Sem.run_pure, Result.andThen_ok, run_storeVar_row w g u t cs c hg (by rw [hc]; exact ht.size) (by rw [hn, hc]) h1]
theorem wl_alloc (hgd : o.guard = none) (t : TypeId) (ho : o.op = .alloc t) {z : Array Value} (hz : (P.info? t).map (fun i => i.zero) = some (some (.agg z)))
    (h : wpList P ops Q rest (a.put o.dst (.pointer (some ⟨w.heap.size, 0, none⟩))) (w.alloc (.cells z t))) : wpList P ops Q (o :: rest) a w := by
  refine wl_run hgd ?_ h
  cases hq : P.info? t with
  | none => simp [hq] at hz
  | some i =>
    simp [hq] at hz
    unfold execOp
    simp [ho, Instr.alloc, zeroValue, typeInfo, hq, hz, newVar, newRow, Value.cells]
theorem wl_box (hgd : o.guard = none) (t : TypeId) (x : Operand) (ho : o.op = .box t x) {c : Array Value} (hx : a.eval x = .agg c)
    (h : wpList P ops Q rest (a.put o.dst (.pointer (some ⟨w.heap.size, 0, none⟩))) (w.alloc (.cells c t))) : wpList P ops Q (o :: rest) a w := by
  refine wl_run hgd ?_ h
  unfold execOp
  simp [ho, hx, Instr.box, newVar, newRow, Value.cells]

/-- A row of the list, given new cells. -/
theorem Locs.row {w : World} {b : Nat} {cs c : Array Value} {t : TypeId} {l : List (Nat × Array Value × TypeId)} (h : Locs w ((b, cs, t) :: l)) (hne : ∀ x ∈ l, x.1 ≠ b) : Locs (w.setRow b c) ((b, c, t) :: l) :=
  ⟨setRow_heap w b cs c t _ h.1, Locs.others h.2 fun x hx => by rw [setRow_other w b x.1 c (hne x hx)]⟩
theorem Locs.cell {w : World} {b j : Nat} {cs : Array Value} {t : TypeId} {v : Value} {l : List (Nat × Array Value × TypeId)} (h : Locs w ((b, cs, t) :: l)) (hne : ∀ x ∈ l, x.1 ≠ b) : Locs (w.setCell ⟨b, j, none⟩ v) ((b, cs.setIfInBounds j v, t) :: l) :=
  ⟨Flo.heap_setCell_same h.1 v, Locs.others h.2 fun x hx => heap_setCell_get _ _ _ _ (hne x hx)⟩
end
end Go.Flo

/-! The memory of a call's own, kept as a list of items: whole blocks with what they hold, and slices that it owns. No program is named here. -/
namespace Go.Flo
open Go Go.RowKit

/-- c: a block and all its cells. s: an owned slice (append may go on in it) and what it holds. o: a block of whatever kind. -/
inductive It where
  | c (b : Nat) (cs : Array Value) (t : TypeId)
  | s (v : Value) (e : TypeId) (size n : Nat) (xs : List Value)
  | o (b : Nat) (x : Obj)

def It.blk : It → Option Nat
  | .c b _ _ => some b
  | .s v _ _ _ _ => v.ownBlock
  | .o b _ => some b
def It.holds (base : Nat) (w : World) : It → Prop
  | .c b cs t => base ≤ b ∧ w.heap[b]? = some (.cells cs t (0, 0))
  | .s v e size n xs => w.ownsRow base e size v n xs
  | .o b x => base ≤ b ∧ w.heap[b]? = some x
def Apart (x : It) : List It → Prop
  | [] => True
  | y :: l => (∀ b, x.blk = some b → y.blk ≠ some b) ∧ Apart x l
def Items (base : Nat) (w : World) : List It → Prop
  | [] => True
  | x :: l => x.holds base w ∧ Apart x l ∧ Items base w l

structure Mem (w0 w : World) (l : List It) : Prop where
  below : Below w0.heap.size w0 w
  items : Items w0.heap.size w l

theorem It.holds.lt {base : Nat} {w : World} : ∀ {x : It}, x.holds base w → ∀ {b : Nat}, x.blk = some b → base ≤ b ∧ b < w.heap.size
  | .c _ _ _, h, _, hb => by cases hb; exact ⟨h.1, heap_lt h.2⟩
  | .s _ _ _ _ _, h, b, hb => World.ownsRow.lt h b hb
  | .o _ _, h, _, hb => by cases hb; exact ⟨h.1, heap_lt h.2⟩
theorem It.holds.keep {base : Nat} {w w' : World} : ∀ {x : It}, x.holds base w → (∀ b, x.blk = some b → w'.heap[b]? = w.heap[b]?) → x.holds base w'
  | .c b _ _, h, hk => ⟨h.1, (hk b rfl).trans h.2⟩
  | .s v e size n xs, h, hk => by
    obtain ⟨hl, h0 | ⟨g, cap, cur, hv, hb, hg, rest⟩⟩ := h
    · exact ⟨hl, .inl h0⟩
    · subst hv
      exact ⟨hl, .inr ⟨g, cap, cur, rfl, hb, (hk g rfl).trans hg, rest⟩⟩
  | .o b _, h, hk => ⟨h.1, (hk b rfl).trans h.2⟩
theorem Items.mem {base : Nat} {w : World} : ∀ {l : List It}, Items base w l → ∀ x ∈ l, x.holds base w
  | [], _, x, hx => by cases hx
  | y :: l, h, x, hx => by
    rcases List.mem_cons.1 hx with rfl | hx
    · exact h.1
    · exact Items.mem h.2.2 x hx
theorem Items.keep {base : Nat} {w w' : World} : ∀ {l : List It}, Items base w l → (∀ x ∈ l, ∀ b, x.blk = some b → w'.heap[b]? = w.heap[b]?) → Items base w' l
  | [], _, _ => trivial
  | x :: l, h, hk => ⟨h.1.keep (hk x (by simp)), h.2.1, Items.keep h.2.2 fun y hy => hk y (by simp [hy])⟩
theorem Items.below {base : Nat} {w w' : World} {l : List It} (h : Items base w l) (hb : Below w.heap.size w w') : Items base w' l :=
  h.keep fun x hx b hxb => hb.block b ((h.mem x hx).lt hxb).2
theorem apart_mem {x : It} : ∀ {l : List It}, Apart x l ↔ ∀ y ∈ l, ∀ b, x.blk = some b → y.blk ≠ some b
  | [] => by simp [Apart]
  | y :: l => by simp [Apart, apart_mem (l := l)]
theorem Items.get {base : Nat} {w : World} {l : List It} (h : Items base w l) {i : Nat} {x : It} (hi : l[i]? = some x) : x.holds base w := h.mem x (List.mem_of_getElem? hi)
/-- Two items lie apart. -/
theorem Items.apart {base : Nat} {w : World} : ∀ {l : List It}, Items base w l → ∀ {i j : Nat} {x y : It}, l[i]? = some x → l[j]? = some y → i ≠ j → ∀ b, x.blk = some b → y.blk ≠ some b
  | [], _, i, j, x, y, hi, _, _, _, _ => by simp at hi
  | z :: l, h, 0, 0, x, y, _, _, hne, _, _ => (hne rfl).elim
  | z :: l, h, 0, j + 1, x, y, hi, hj, _, b, hb => by
    simp at hi; subst hi
    exact apart_mem.1 h.2.1 y (List.mem_of_getElem? (by simpa using hj)) b hb
  | z :: l, h, i + 1, 0, x, y, hi, hj, _, b, hb => by
    simp at hj; subst hj
    intro hy
    exact apart_mem.1 h.2.1 x (List.mem_of_getElem? (by simpa using hi)) b hy hb
  | z :: l, h, i + 1, j + 1, x, y, hi, hj, hne, b, hb => Items.apart h.2.2 (by simpa using hi) (by simpa using hj) (by omega) b hb
theorem items_of {base : Nat} {w : World} : ∀ {l : List It}, (∀ x ∈ l, x.holds base w) → (∀ (i j : Nat) (x y : It), l[i]? = some x → l[j]? = some y → i < j → ∀ b, x.blk = some b → y.blk ≠ some b) → Items base w l
  | [], _, _ => trivial
  | x :: l, h, ha => ⟨h x (by simp), apart_mem.2 fun y hy b hb => by
      obtain ⟨j, hj⟩ := List.mem_iff_getElem?.1 hy
      exact ha 0 (j + 1) x y (by simp) (by simpa using hj) (by omega) b hb,
    items_of (fun y hy => h y (by simp [hy])) fun i j y z hi hj hij => ha (i + 1) (j + 1) y z (by simpa using hi) (by simpa using hj) (by omega)⟩

theorem Mem.nil (w : World) : Mem w w [] := ⟨Below.refl _ _, trivial⟩
theorem Mem.size {w0 w : World} {l : List It} (h : Mem w0 w l) : w0.heap.size ≤ w.heap.size := h.below.size
theorem Mem.call {w0 w w' : World} {l : List It} (h : Mem w0 w l) (hb : Below w.heap.size w w') : Mem w0 w' l := ⟨below_step h.below hb, h.items.below hb⟩
theorem Mem.drew {w0 w : World} {l : List It} (h : Mem w0 w l) : Mem w0 w.drew l := h.call (Below.refl _ _).drew
/-- What a callee made comes in. -/
theorem Mem.got {w0 w w' : World} {l : List It} {x : It} (h : Mem w0 w l) (hb : Below w.heap.size w w') (hx : x.holds w.heap.size w') : Mem w0 w' (x :: l) := by
  have h' := h.call hb
  refine ⟨h'.below, ?_, apart_mem.2 fun y hy b hxb hyb => ?_, h'.items⟩
  · have hs := h.size
    match x, hx with
    | .c b cs t, hx => exact ⟨Nat.le_trans hs hx.1, hx.2⟩
    | .s v e size n xs, hx =>
      obtain ⟨hl, h0 | ⟨g, cap, cur, hv, hb, hg, rest⟩⟩ := hx
      · exact ⟨hl, .inl h0⟩
      · exact ⟨hl, .inr ⟨g, cap, cur, hv, Nat.le_trans hs hb, hg, rest⟩⟩
    | .o b x, hx => exact ⟨Nat.le_trans hs hx.1, hx.2⟩
  · have h1 := (hx.lt hxb).1
    have h2 := ((h.items.mem y hy).lt hyb).2
    omega
theorem Mem.alloc {w0 w : World} {l : List It} {cs : Array Value} {t : TypeId} (h : Mem w0 w l) : Mem w0 (w.alloc (.cells cs t)) (.c w.heap.size cs t :: l) :=
  h.got ((Below.refl _ _).alloc (Nat.le_refl _) _) ⟨Nat.le_refl _, heap_alloc_new _ _⟩

theorem mem_set {l : List It} {i : Nat} {x y : It} (h : y ∈ l.set i x) : y = x ∨ ∃ j, j ≠ i ∧ l[j]? = some y := by
  obtain ⟨j, hj⟩ := List.mem_iff_getElem?.1 h
  rw [List.getElem?_set] at hj
  by_cases hij : i = j
  · rw [if_pos hij] at hj
    split at hj
    · exact .inl (Option.some.inj hj).symm
    · cases hj
  · rw [if_neg hij] at hj; exact .inr ⟨j, Ne.symm hij, hj⟩
/-- One item is changed: what it now is, all others as they were. -/
theorem Mem.turn {w0 w w' : World} {l : List It} {i : Nat} {x x' : It} (h : Mem w0 w l) (hi : l[i]? = some x) (hb : Below w0.heap.size w0 w') (hx : x'.holds w0.heap.size w')
    (hk : ∀ b, b < w.heap.size → x.blk ≠ some b → w'.heap[b]? = w.heap[b]?) (hn : ∀ b, x'.blk = some b → x.blk = some b ∨ w.heap.size ≤ b) : Mem w0 w' (l.set i x') := by
  have key : ∀ j y, j ≠ i → l[j]? = some y → ∀ b, y.blk = some b → x.blk ≠ some b ∧ b < w.heap.size := fun j y hji hj b hyb =>
    ⟨h.items.apart hj hi hji b hyb, ((h.items.get hj).lt hyb).2⟩
  refine ⟨hb, items_of (fun y hy => ?_) (fun a c y z ha hc hac b hyb hzb => ?_)⟩
  · rcases mem_set hy with rfl | ⟨j, hji, hj⟩
    · exact hx
    · exact (h.items.get hj).keep fun b hyb => hk b (key j y hji hj b hyb).2 (key j y hji hj b hyb).1
  · rw [List.getElem?_set] at ha hc
    by_cases hia : i = a
    · subst hia
      rw [if_pos rfl] at ha
      split at ha
      · cases ha
        rw [if_neg (by omega)] at hc
        obtain ⟨k1, k2⟩ := key c z (by omega) hc b hzb
        rcases hn b hyb with h1 | h1
        · exact k1 h1
        · omega
      · cases ha
    · rw [if_neg hia] at ha
      by_cases hic : i = c
      · subst hic
        rw [if_pos rfl] at hc
        split at hc
        · cases hc
          obtain ⟨k1, k2⟩ := key a y (by omega) ha b hyb
          rcases hn b hzb with h1 | h1
          · exact k1 h1
          · omega
        · cases hc
      · rw [if_neg hic] at hc
        exact h.items.apart ha hc (by omega) b hyb hzb

theorem Mem.put {w0 w : World} {l : List It} (i : Nat) {b : Nat} {cs : Array Value} {t : TypeId} (h : Mem w0 w l) (hi : l[i]? = some (.c b cs t)) (j : Nat) (v : Value) :
    Mem w0 (w.setCell ⟨b, j, none⟩ v) (l.set i (.c b (cs.setIfInBounds j v) t)) := by
  have hx := h.items.get hi
  refine h.turn hi (h.below.setCell hx.1 _) ⟨hx.1, heap_setCell_same hx.2 v⟩ (fun c _ hc => heap_setCell_get w ⟨b, j, none⟩ v c (fun e => hc (by rw [It.blk, e]))) (fun c hc => .inl hc)
theorem Mem.row {w0 w : World} {l : List It} (i : Nat) {b : Nat} {cs : Array Value} {t : TypeId} (h : Mem w0 w l) (hi : l[i]? = some (.c b cs t)) (c : Array Value) :
    Mem w0 (w.setRow b c) (l.set i (.c b c t)) := by
  have hx := h.items.get hi
  refine h.turn hi ⟨h.below.os, h.below.tape, h.below.output, by simpa using h.size, fun k hk => ?_⟩ ⟨hx.1, setRow_heap w b cs c t _ hx.2⟩ (fun k _ hc => setRow_other w b k c (fun e => hc (by rw [It.blk, e]))) (fun k hc => .inl hc)
  have := hx.1
  exact (setRow_other w b k c (by omega)).trans (h.below.block k hk)
theorem Mem.alloc' {w0 w : World} {l : List It} {cs : Array Value} {t : TypeId} {b : Nat} (hb : w.heap.size = b) (h : Mem w0 w l) : Mem w0 (w.alloc (.cells cs t)) (.c b cs t :: l) := hb ▸ h.alloc
theorem Mem.put4 {w0 w : World} {l : List It} (i : Nat) {b : Nat} {y0 y1 y2 y3 : Value} {t : TypeId} (h : Mem w0 w l) (hi : l[i]? = some (.c b #[y0, y1, y2, y3] t)) (x0 x1 x2 x3 : Value) :
    Mem w0 (Flo.put4 w b x0 x1 x2 x3) (l.set i (.c b #[x0, x1, x2, x3] t)) := by
  have hx := h.items.get hi
  exact h.turn hi (Below.put4 h.below hx.1 _ _ _ _) ⟨hx.1, put4_same hx.2 _ _ _ _⟩ (fun c _ hc => put4_other w b x0 x1 x2 x3 c (fun e => hc (by rw [It.blk, e]))) (fun c hc => .inl hc)
/-- A callee has written one block anew. -/
theorem Mem.anew {w0 w w' : World} {l : List It} (i : Nat) {b : Nat} {cs c : Array Value} {t : TypeId} (h : Mem w0 w l) (hi : l[i]? = some (.c b cs t)) (hg : w.grownBy w' (some b)) (hb : w'.heap[b]? = some (.cells c t (0, 0))) : Mem w0 w' (l.set i (.c b c t)) := by
  have hx := h.items.get hi
  exact h.turn hi (Below.grown h.below hg h.size (fun k hk => by cases hk; exact hx.1)) ⟨hx.1, hb⟩ (fun k hk hc => hg.block k hk (fun e => hc (by rw [It.blk]; exact e.symm))) (fun k hc => .inl hc)
/-- Items in another order, or fewer of them. -/
theorem Mem.pick {w0 w : World} {l : List It} (is : List Nat) (h : Mem w0 w l) (hd : is.Nodup) : Mem w0 w (is.filterMap (fun i => l[i]?)) := by
  refine ⟨h.below, ?_⟩
  induction is with
  | nil => exact trivial
  | cons a is ih =>
    have ha := List.nodup_cons.1 hd
    rw [List.filterMap_cons]
    cases hx : l[a]? with
    | none => exact ih ha.2
    | some x =>
      refine ⟨h.items.get hx, apart_mem.2 fun y hy b hxb hyb => ?_, ih ha.2⟩
      obtain ⟨j, hj, hjy⟩ := List.mem_filterMap.1 hy
      exact h.items.apart hx hjy (fun e => ha.1 (e ▸ hj)) b hxb hyb
/-- An owned slice was grown. -/
theorem Mem.grown {w0 w w' : World} {l : List It} (i : Nat) {v v' : Value} {e : TypeId} {size n n' : Nat} {xs xs' : List Value} (h : Mem w0 w l) (hi : l[i]? = some (.s v e size n xs))
    (ho : w'.ownsRow w0.heap.size e size v' n' xs') (hg : w.grownBy w' v.ownBlock) (hn : ∀ b, v'.ownBlock = some b → v.ownBlock = some b ∨ w.heap.size ≤ b) : Mem w0 w' (l.set i (.s v' e size n' xs')) := by
  have hx := h.items.get hi
  refine h.turn hi ?_ ho (fun b hb hc => hg.block b hb (fun e => hc (by rw [It.blk, e]))) hn
  exact Below.grown h.below hg h.size (fun k hk => (World.ownsRow.lt hx k hk).1)
/-- A block as an owned slice. -/
theorem Mem.owned {w0 w : World} {l : List It} (i : Nat) {b : Nat} {cs : Array Value} {e : TypeId} (n cap size : Nat) (h : Mem w0 w l) (hi : l[i]? = some (.c b cs e)) (hn : n ≤ cap) (hc : cap ≤ maxLen) (hs : cs.size = cap * size) :
    Mem w0 w (l.set i (.s (.slice (some ⟨b, 0, none⟩) n cap) e size n (cs.toList.take (n * size)))) := by
  have hx := h.items.get hi
  refine h.turn hi h.below ⟨?_, .inr ⟨b, cap, cs, rfl, hx.1, hx.2, hn, hc, hs, rfl⟩⟩ (fun _ _ _ => rfl) (fun c hc => .inl hc)
  rw [List.length_take, Array.length_toList, hs]
  exact Nat.min_eq_left (Nat.mul_le_mul_right _ hn)
/-- An owned slice that is not empty, as its block. -/
theorem Mem.opened {w0 w : World} {l : List It} (i : Nat) {v : Value} {e : TypeId} {size n : Nat} {xs : List Value} (h : Mem w0 w l) (hi : l[i]? = some (.s v e size n xs)) (hn : 0 < n) :
    ∃ g cap cur, v = .slice (some ⟨g, 0, none⟩) n cap ∧ n ≤ cap ∧ cap ≤ maxLen ∧ cur.size = cap * size ∧ cur.toList.take (n * size) = xs ∧ Mem w0 w (l.set i (.c g cur e)) := by
  obtain ⟨hl, ⟨_, h0⟩ | ⟨g, cap, cur, rfl, hb, hg, hc, hm, hs, ht⟩⟩ := h.items.get hi
  · omega
  · exact ⟨g, cap, cur, rfl, hc, hm, hs, ht, h.turn hi h.below ⟨hb, hg⟩ (fun _ _ _ => rfl) (fun c hc => .inl hc)⟩

theorem Mem.allocO {w0 w : World} {l : List It} {b : Nat} {x : Obj} (hb : w.heap.size = b) (h : Mem w0 w l) : Mem w0 (w.alloc x) (.o b x :: l) :=
  hb ▸ h.got ((Below.refl _ _).alloc (Nat.le_refl _) _) ⟨Nat.le_refl _, heap_alloc_new _ _⟩
theorem Mem.obj {w0 w : World} {l : List It} (i : Nat) {b : Nat} {x : Obj} (h : Mem w0 w l) (hi : l[i]? = some (.o b x)) : w.heap[b]? = some x := (h.items.get hi).2
/-- A string's iterator goes on. -/
theorem Mem.iter {w0 w : World} {l : List It} (i : Nat) {b : Nat} {s : ByteArray} {p : Nat} (h : Mem w0 w l) (hi : l[i]? = some (.o b (.stringIter s p))) (p' : Nat) : Mem w0 (w.iterAt b s p') (l.set i (.o b (.stringIter s p'))) := by
  have hx := h.items.get hi
  exact h.turn hi (Lib.below_iterAt h.below hx.1 s p') ⟨hx.1, Lib.iterAt_heap w b s p p' hx.2⟩ (fun c _ hc => Lib.iterAt_other w b c s p' (fun e => hc (by rw [It.blk, e]))) (fun c hc => .inl hc)

theorem Mem.shape {w0 w : World} {l : List It} (i : Nat) {v : Value} {e : TypeId} {size n : Nat} {xs : List Value} (h : Mem w0 w l) (hi : l[i]? = some (.s v e size n xs)) : ∃ a c, v = .slice a n c := by
  obtain ⟨_, ⟨h1, h2⟩ | ⟨g, cap, cur, h1, _⟩⟩ := h.items.get hi
  · subst h2; exact ⟨_, _, h1⟩
  · exact ⟨_, _, h1⟩
theorem Mem.allocS {w0 w : World} {l : List It} (h : Mem w0 w l) (e : TypeId) (size : Nat) : Mem w0 w (.s (.slice none 0 0) e size 0 [] :: l) :=
  h.got (Below.refl _ _) ⟨by simp, .inl ⟨rfl, rfl⟩⟩

/-! ### What a walk wants to know -/
def ApartFacts (b : Nat) : List It → Prop
  | [] => True
  | .c b' _ _ :: l => (b ≠ b' ∧ b' ≠ b) ∧ ApartFacts b l
  | .s _ _ _ _ _ :: l => ApartFacts b l
  | .o b' _ :: l => (b ≠ b' ∧ b' ≠ b) ∧ ApartFacts b l
def MemFacts (base : Nat) (w : World) : List It → Prop
  | [] => base ≤ w.heap.size
  | .c b cs _ :: l => b < w.heap.size ∧ b ≤ w.heap.size ∧ base ≤ b ∧ (∀ j, w.cell? ⟨b, j, none⟩ = cs[j]?) ∧ (∀ j, w.frozen? ⟨b, j, none⟩ = false) ∧ ApartFacts b l ∧ MemFacts base w l
  | .s _ _ _ _ _ :: l => MemFacts base w l
  | .o b _ :: l => b < w.heap.size ∧ b ≤ w.heap.size ∧ base ≤ b ∧ ApartFacts b l ∧ MemFacts base w l
theorem apartFacts {x : It} {b : Nat} (hb : x.blk = some b) : ∀ {l : List It}, Apart x l → ApartFacts b l
  | [], _ => trivial
  | .c b' _ _ :: l, h => ⟨⟨fun e => h.1 b hb (by rw [It.blk, e]), fun e => h.1 b hb (by rw [It.blk, e])⟩, apartFacts hb h.2⟩
  | .s _ _ _ _ _ :: l, h => (apartFacts (l := l) hb h.2 :)
  | .o b' _ :: l, h => ⟨⟨fun e => h.1 b hb (by rw [It.blk, e]), fun e => h.1 b hb (by rw [It.blk, e])⟩, apartFacts hb h.2⟩
theorem Items.facts {base : Nat} {w : World} (hs : base ≤ w.heap.size) : ∀ {l : List It}, Items base w l → MemFacts base w l
  | [], _ => hs
  | .c b cs t :: _, h => ⟨heap_lt h.1.2, Nat.le_of_lt (heap_lt h.1.2), h.1.1, fun j => cell_of_row w b j cs t _ h.1.2, fun j => frozen_of_row w b j cs t h.1.2, apartFacts rfl h.2.1, Items.facts hs h.2.2⟩
  | .s _ _ _ _ _ :: l, h => (Items.facts (l := l) hs h.2.2 :)
  | .o _ _ :: _, h => ⟨heap_lt h.1.2, Nat.le_of_lt (heap_lt h.1.2), h.1.1, apartFacts rfl h.2.1, Items.facts hs h.2.2⟩
theorem Mem.facts {w0 w : World} {l : List It} (h : Mem w0 w l) : MemFacts w0.heap.size w l := h.items.facts h.size
/-- The first block's place in the heap. -/
theorem Mem.at {w0 w : World} {l : List It} (i : Nat) {b : Nat} {cs : Array Value} {t : TypeId} (h : Mem w0 w l) (hi : l[i]? = some (.c b cs t)) : w.heap[b]? = some (.cells cs t (0, 0)) := (h.items.get hi).2

/-- A whole array is stored into a block that has just been made. -/
theorem wl_storenew {P : Program} {ops : Array Oper} {rest : List Oper} {o : Oper} {a : Act} {w : World} {Q : Exit → Act → World → Prop} (hgd : o.guard = none) (t : TypeId) (x y : Operand) (ho : o.op = .store t x y) {e : TypeId} {n : Nat} (ht : Rowed P t e n) {W : World} {cs c : Array Value} {u : TypeId}
    (hw : w = W.alloc (.cells cs u)) (hx : a.eval x = .pointer (some ⟨W.heap.size, 0, none⟩)) (hy : a.eval y = .agg c) (hc : c.size = n) (hn : cs.size = n) (h1 : c.all (·.oneCell') = true)
    (h : wpList P ops Q rest (a.put o.dst undef) (W.alloc (.cells c u))) : wpList P ops Q (o :: rest) a w := by
  subst hw
  refine wl_store hgd t x y ho ht hx hy (heap_alloc_new _ _) hc hn h1 ?_
  rw [World.setRow_alloc_new]
  exact h

/-! ### append, and where it goes on -/
section
variable {P : Program} (w : World)
theorem run_append_own2 (base : Nat) (t ty e : TypeId) (i : TypeInfo) (z : Value) (size bytes : Nat) (ht : P.underlying t = some (.slice e)) (hi : P.info? e = some i) (hz : i.zero = some z)
    (hsize : i.size = size) (hby : i.bytes = bytes) (hzs : z.cells.size = size) (hsz : 0 < size)
    (v : Value) (n : Nat) (xs : List Value) (hown : w.ownsRow base e size v n xs)
    (a : Addr) (m c : Nat) (news : List Value) (hl : news.length = m * size) (hnews : ∀ j u, news[j]? = some u → w.cell? (a.add j) = some u) (h1 : ∀ u ∈ news, u.oneCell' = true)
    (h63 : n + m ≤ maxLen) (hbytes : (n + m) * bytes ≤ 140737488355328) (hbase : base ≤ w.heap.size) :
    ∃ v' w', (Builtin.append_ #[t, t] ty #[v, .slice (some a) m c]).run P w = .ok v' w' ∧ w'.ownsRow base e size v' (n + m) (xs ++ news) ∧ w.grownBy w' v.ownBlock ∧ (∀ b, v'.ownBlock = some b → v.ownBlock = some b ∨ w.heap.size ≤ b) := by
  obtain ⟨v1, w1, hr1, ho1, hg1, _⟩ := run_append_own (P := P) w base t ty e i z size bytes ht hi hz hsize hby hzs hsz v n xs hown a m c news hl hnews h1 h63 hbytes hbase
  refine ⟨v1, w1, hr1, ho1, hg1, ?_⟩
  rcases hown.2 with ⟨rfl, rfl⟩ | ⟨g, cap, cur, rfl, hbg, hg, hnc, hcm, hcs, htake⟩
  · -- nil: what is made lies behind all
    have hown' : w.ownsRow w.heap.size e size (.slice none 0 0) 0 xs := ⟨hown.1, .inl ⟨rfl, rfl⟩⟩
    obtain ⟨v2, w2, hr2, ho2, _, _⟩ := run_append_own (P := P) w w.heap.size t ty e i z size bytes ht hi hz hsize hby hzs hsz _ _ xs hown' a m c news hl hnews h1 h63 hbytes (Nat.le_refl _)
    rw [hr1] at hr2
    cases hr2
    exact fun b hb => .inr (ho2.lt b hb).1
  · by_cases hroom : n + m ≤ cap
    · subst hsize
      have hfit : n * i.size + news.length ≤ cur.size := by rw [hl, hcs, ← Nat.add_mul]; exact Nat.mul_le_mul_right _ hroom
      have hr := run_append_room (P := P) w t ty e i ht hi g n cap cur hg a m c news hl hnews h1 hroom hfit
      rw [hr1] at hr
      cases hr
      exact fun b hb => .inl hb
    · subst hsize
      have hsmall : n + m ≤ 9223372036854775807 := by simp only [maxLen] at h63; omega
      have holds : ∀ j u, xs[j]? = some u → w.cell? ((⟨g, 0, none⟩ : Addr).add j) = some u := hown.cells (g := g) rfl
      have hr := run_append_grow (P := P) w t ty e i z ht hi hz ⟨g, 0, none⟩ n cap xs hown.1 holds a m c news hl hnews (by omega) (by omega) (growslice_fits (by omega) (hby ▸ hbytes))
      rw [hr1] at hr
      cases hr
      intro b hb
      simp [Value.ownBlock] at hb
      exact .inr (by omega)

/-- append to an item of the list, as a single operation. -/
theorem wp_append {o : Oper} {a : Act} {K : Act → World → Prop} {Q : Exit → Act → World → Prop} {w0 : World} {l : List It} (k : Nat) (M : Mem w0 w l) {v : Value} {e : TypeId} {size n : Nat} {xs : List Value} (hk : l[k]? = some (.s v e size n xs))
    (s x : Operand) (t : TypeId)
    (ho : o.op = .call { callee := .builtin .append, args := #[s, x], argTypes := #[t, t] })
    (i : TypeInfo) (z : Value) (bytes : Nat) (ht : P.underlying t = some (.slice e)) (hi : P.info? e = some i) (hz : i.zero = some z)
    (hsize : i.size = size) (hby : i.bytes = bytes) (hzs : z.cells.size = size) (hsz : 0 < size) (hs : a.eval s = v)
    (ad : Addr) (m c : Nat) (news : List Value) (hx : a.eval x = .slice (some ad) m c) (hl : news.length = m * size) (hnews : ∀ j u, news[j]? = some u → w.cell? (ad.add j) = some u) (h1 : ∀ u ∈ news, u.oneCell' = true)
    (h63 : n + m ≤ maxLen) (hbytes : (n + m) * bytes ≤ 140737488355328)
    (h : ∀ v' w', Mem w0 w' (l.set k (.s v' e size (n + m) (xs ++ news))) → w.grownBy w' v.ownBlock → K (a.put o.dst v') w') : o.wp P a w K Q := by
  obtain ⟨v', w', hr, h2, h3, h4⟩ := run_append_own2 (P := P) w w0.heap.size t o.type e i z size bytes ht hi hz hsize hby hzs hsz v n xs (M.items.get hk) ad m c news hl hnews h1 h63 hbytes M.size
  unfold Oper.wp execOp
  simp only [ho, resolve, invoke, builtin, Sem.run_bind, Sem.run_pure, Result.andThen_ok, List.map_toArray, List.map_cons, List.map_nil, hs, hx, hr]
  exact h _ _ (M.grown k hk h2 h3 h4) h3
/-- append to an item of the list. -/
theorem wl_append {ops : Array Oper} {rest : List Oper} {o : Oper} {a : Act} {Q : Exit → Act → World → Prop} {w0 : World} {l : List It} (k : Nat) (M : Mem w0 w l) {v : Value} {e : TypeId} {size n : Nat} {xs : List Value} (hk : l[k]? = some (.s v e size n xs))
    (hgd : o.guard = none) (s x : Operand) (t : TypeId)
    (ho : o.op = .call { callee := .builtin .append, args := #[s, x], argTypes := #[t, t] })
    (i : TypeInfo) (z : Value) (bytes : Nat) (ht : P.underlying t = some (.slice e)) (hi : P.info? e = some i) (hz : i.zero = some z)
    (hsize : i.size = size) (hby : i.bytes = bytes) (hzs : z.cells.size = size) (hsz : 0 < size) (hs : a.eval s = v)
    (ad : Addr) (m c : Nat) (news : List Value) (hx : a.eval x = .slice (some ad) m c) (hl : news.length = m * size) (hnews : ∀ j u, news[j]? = some u → w.cell? (ad.add j) = some u) (h1 : ∀ u ∈ news, u.oneCell' = true)
    (h63 : n + m ≤ maxLen) (hbytes : (n + m) * bytes ≤ 140737488355328)
    (h : ∀ v' w', Mem w0 w' (l.set k (.s v' e size (n + m) (xs ++ news))) → wpList P ops Q rest (a.put o.dst v') w') : wpList P ops Q (o :: rest) a w :=
  wpList_plain hgd fun _ hK => by
    obtain ⟨v', w', hr, h2, h3, h4⟩ := run_append_own2 (P := P) w w0.heap.size t o.type e i z size bytes ht hi hz hsize hby hzs hsz v n xs (M.items.get hk) ad m c news hl hnews h1 h63 hbytes M.size
    unfold Oper.wp execOp
    simp only [ho, resolve, invoke, builtin, Sem.run_bind, Sem.run_pure, Result.andThen_ok, List.map_toArray, List.map_cons, List.map_nil, hs, hx, hr]
    exact hK _ _ (h v' w' (M.grown k hk h2 h3 h4))
end
end Go.Flo

/-! A region that draws its order, makes memory, calls, and ends in stores, whatever these hit: ONE walk. (Mix2 with two modes more.) No program is named here. -/
namespace Go.Flo.N
open Go Go.RowKit Go.Flo
section
variable {P : Program} {ops : Array Oper} {md : Region.Mode}

/-- Where the walk stands: the world is not held; it is; the last stores have begun. -/
inductive Ph | soft (fs : Made) | hard (w : World) | done (w : World)
def Ph.J (W : World) : Ph → World → Prop
  | .soft fs, w => Holds W allOf fs w
  | .hard w0, w => w = w0
  | .done w0, w => w = w0
def Ph.held : Ph → Bool
  | .done _ => false
  | _ => true

/-- 0 it moves the world · 1 one value in every world of the class · 3 it makes a block · 4 one value in every world the walk may stand in; it may make memory that nobody sees · 5 it waits for all ahead, and may do what it likes · 6 one value in whatever world. -/
def swaps3 (x y : Nat) : Bool := x == 6 || y == 6 || (x != 5 && y != 5 && swaps2 x y)
theorem swaps3_symm {x y : Nat} (h : swaps3 x y = true) : swaps3 y x = true := by
  unfold swaps3 at *
  simp only [Bool.or_eq_true, Bool.and_eq_true] at *
  rcases h with (h | h) | ⟨⟨h1, h2⟩, h3⟩
  · exact .inl (.inr h)
  · exact .inl (.inl h)
  · exact .inr ⟨⟨h2, h1⟩, swaps2_symm h3⟩
def SuIn (P : Program) (W : World) (Z : World → Prop) (D : Nat → Bool) (j m : Nat) (o : Oper) (a : Act) (ph : Ph) (R : Value → Ph → Prop) : Prop :=
  match m with
  | 1 => ph.held = true ∧ ∃ v, (∀ w', Z w' → keeps P o a w' v) ∧ R v ph
  | 3 => ∃ fs, ph = .soft fs ∧ ∃ z f, makesAt P o a z f ∧ ∀ b, Fresh W fs b → R (f b) (.soft (fs.put j (b, z)))
  | 4 => ∃ fs, ph = .soft fs ∧ ∃ v, givesAt P W D fs o a v ∧ R v ph
  | 5 => ∀ w, ph.J W w → leads P o a w fun v w' => R v (.done w')
  | 6 => ∃ v, (∀ w', keeps P o a w' v) ∧ R v ph
  | _ => ph.held = true ∧ ∀ w, ph.J W w → leads P o a w fun v w' => Z w' ∧ R v (.hard w')
def Su (P : Program) (W : World) (ops : Array Oper) (Z : World → Prop) (D : Nat → Bool) (j m : Nat) (o : Oper) (a : Act) (ph : Ph) (R : Value → Ph → Prop) : Prop :=
  if Region.wanted o (yielded ops a.tmps) then SuIn P W Z D j m o a ph R else R undef ph

variable {W : World} {Z : World → Prop}
/-- What the walk knows. -/
structure Stand (W : World) (Z : World → Prop) (ph : Ph) : Prop where
  some : ∃ w, ph.J W w
  inZ : ∀ w, ph.J W w → ph.held = true → Z w

theorem Stand.hard {w : World} (h : Z w) : Stand W Z (.hard w) := ⟨⟨w, rfl⟩, fun _ e _ => e ▸ h⟩
theorem Stand.soft {fs : Made} (hZ : ∀ w, Below W.heap.size W w → Z w) {w : World} (h : Holds W allOf fs w) : Stand W Z (.soft fs) := ⟨⟨w, h⟩, fun _ h _ => hZ _ h.below⟩
theorem Stand.done (w : World) : Stand W Z (.done w) := ⟨⟨w, rfl⟩, fun _ _ h => by cases h⟩

/-- Nothing is made by k. -/
def Ph.un (ph : Ph) (k : Nat) : Prop := ∀ fs, ph = .soft fs → fs k = none
theorem Ph.un_hard (w : World) (k : Nat) : (Ph.hard w).un k := fun _ e => by cases e
theorem Ph.un_done (w : World) (k : Nat) : (Ph.done w).un k := fun _ e => by cases e
theorem Ph.un_put {fs : Made} {j k : Nat} {x : Nat × Obj} (hk : k ≠ j) (h : (Ph.soft fs).un k) : (Ph.soft (fs.put j x)).un k := fun _ e => by
  cases e
  unfold Made.put
  rw [if_neg hk]
  exact h _ rfl
theorem Su_mono {D : Nat → Bool} {j m : Nat} {o : Oper} {a : Act} {ph : Ph} {R R' : Value → Ph → Prop} (hZ : ∀ w, Below W.heap.size W w → Z w) (hs : Stand W Z ph)
    (h : ∀ v ph', Stand W Z ph' → (∀ k, k ≠ j → ph.un k → ph'.un k) → (m ≠ 5 → ph.held = true → ph'.held = true) → R v ph' → R' v ph') (hh : Su P W ops Z D j m o a ph R) : Su P W ops Z D j m o a ph R' := by
  unfold Su at *
  split
  · rename_i hq
    rw [if_pos hq] at hh
    unfold SuIn at *
    split at hh
    · obtain ⟨h0, v, h1, h2⟩ := hh; exact ⟨h0, v, h1, h _ _ hs (fun _ _ h => h) (fun _ h => h) h2⟩
    · obtain ⟨fs, rfl, z, f, h1, h2⟩ := hh
      refine ⟨fs, rfl, z, f, h1, fun b hb => ?_⟩
      obtain ⟨w, hw⟩ := hs.some
      exact h _ _ ⟨Holds.any hw j z hb, fun w' hw' _ => hZ _ hw'.below⟩ (fun k hk hu => Ph.un_put hk hu) (fun _ _ => rfl) (h2 b hb)
    · obtain ⟨fs, rfl, v, h1, h2⟩ := hh; exact ⟨fs, rfl, v, h1, h _ _ hs (fun _ _ h => h) (fun _ h => h) h2⟩
    · intro w hw
      exact leads_mono (fun v w' hz => h _ _ (Stand.done w') (fun k _ _ => Ph.un_done w' k) (fun h => (h rfl).elim) hz) (hh w hw)
    · obtain ⟨v, h1, h2⟩ := hh; exact ⟨v, h1, h _ _ hs (fun _ _ h => h) (fun _ h => h) h2⟩
    · refine ⟨hh.1, fun w hw => ?_⟩
      exact leads_mono (fun v w' hz => ⟨hz.1, h _ _ (Stand.hard hz.1) (fun k _ _ => Ph.un_hard w' k) (fun _ _ => rfl) hz.2⟩) (hh.2 w hw)
  · rename_i hq
    rw [if_neg hq] at hh
    exact h _ _ hs (fun _ _ h => h) (fun _ h => h) hh
/-- It leads on. -/
theorem SuIn_some {D : Nat → Bool} {j m : Nat} {o : Oper} {a : Act} {ph : Ph} {R : Value → Ph → Prop} (hs : Stand W Z ph) (hh : SuIn P W Z D j m o a ph R) : ∃ v ph', R v ph' := by
  obtain ⟨w, hw⟩ := hs.some
  unfold SuIn at hh
  split at hh
  · obtain ⟨_, v, _, h2⟩ := hh; exact ⟨_, _, h2⟩
  · obtain ⟨fs, rfl, z, f, _, h2⟩ := hh; exact ⟨_, _, h2 _ (Holds.fresh hw)⟩
  · obtain ⟨fs, rfl, v, _, h2⟩ := hh; exact ⟨_, _, h2⟩
  · obtain ⟨v, w', h⟩ := leads_some (hh w hw); exact ⟨_, _, h⟩
  · obtain ⟨v, _, h2⟩ := hh; exact ⟨_, _, h2⟩
  · obtain ⟨v, w', _, h⟩ := leads_some (hh.2 w hw); exact ⟨_, _, h⟩
theorem SuIn_held {D : Nat → Bool} {j m : Nat} {o : Oper} {a : Act} {ph : Ph} {R : Value → Ph → Prop} (h5 : m ≠ 5) (h6 : m ≠ 6) (hh : SuIn P W Z D j m o a ph R) : ph.held = true := by
  unfold SuIn at hh
  split at hh
  · exact hh.1
  · obtain ⟨fs, rfl, _⟩ := hh; rfl
  · obtain ⟨fs, rfl, _⟩ := hh; rfl
  · exact (h5 rfl).elim
  · exact (h6 rfl).elim
  · exact hh.1

theorem Su_put {D : Nat → Bool} {j m : Nat} {o : Oper} {a : Act} {ph : Ph} {R : Value → Ph → Prop} {d : Option Tmp} {u : Value} (hs : ∀ cs b, o.op ≠ .select cs b) (h : ∀ t, d = some t → t ∉ o.looksAt ops) :
    Su P W ops Z D j m o (a.put d u) ph R ↔ Su P W ops Z D j m o a ph R := by
  unfold Su SuIn makesAt givesAt gives keeps leads
  rw [wanted_put o a d u h, execOp_put o hs a d u h]


/-- **TWO OPERATIONS CHANGE PLACES.** -/
theorem Su_swap {Di Dj : Nat → Bool} {i j mi mj : Nat} {oi oj : Oper} {a : Act} {ph : Ph} {R : Value → Value → Ph → Prop} (hZ : ∀ w, Below W.heap.size W w → Z w) (hij : i ≠ j) (hDi : Di j = false) (hDj : Dj i = false) (hm3 : swaps3 mi mj = true) (hs : Stand W Z ph)
    (hni : ph.un i) (hnj : ph.un j)
    (h : Su P W ops Z Di i mi oi a ph fun v ph1 => Su P W ops Z Dj j mj oj a ph1 fun u ph2 => R v u ph2) :
    Su P W ops Z Dj j mj oj a ph fun u ph1 => Su P W ops Z Di i mi oi a ph1 fun v ph2 => R v u ph2 := by
  by_cases hi : Region.wanted oi (yielded ops a.tmps) = true
  case neg =>
    have e : ∀ ph (R : Value → Ph → Prop), Su P W ops Z Di i mi oi a ph R = R undef ph := fun w R => by unfold Su; rw [if_neg hi]
    rw [e] at h
    simp only [e]
    exact h
  by_cases hj : Region.wanted oj (yielded ops a.tmps) = true
  case neg =>
    have e : ∀ ph (R : Value → Ph → Prop), Su P W ops Z Dj j mj oj a ph R = R undef ph := fun w R => by unfold Su; rw [if_neg hj]
    rw [e]
    simp only [e] at h
    exact h
  have ei : ∀ ph (R : Value → Ph → Prop), Su P W ops Z Di i mi oi a ph R = SuIn P W Z Di i mi oi a ph R := fun w R => by unfold Su; rw [if_pos hi]
  have ej : ∀ ph (R : Value → Ph → Prop), Su P W ops Z Dj j mj oj a ph R = SuIn P W Z Dj j mj oj a ph R := fun w R => by unfold Su; rw [if_pos hj]
  obtain ⟨w0, hw0⟩ := hs.some
  by_cases h16 : mi = 6
  · subst h16
    simp only [ei, SuIn] at h ⊢
    obtain ⟨v, hv, hR⟩ := h
    exact Su_mono hZ hs (fun u ph1 _ _ _ hr => ⟨v, hv, hr⟩) hR
  by_cases h26 : mj = 6
  · subst h26
    simp only [ej] at h ⊢
    have hex : ∃ u, (∀ w', keeps P oj a w' u) := by
      rw [ei] at h
      obtain ⟨_, _, u, hu, _⟩ := SuIn_some hs h
      exact ⟨u, hu⟩
    obtain ⟨u, hu⟩ := hex
    refine ⟨u, hu, Su_mono hZ hs (fun v ph1 _ _ _ hr => ?_) h⟩
    obtain ⟨u', hu', hr'⟩ := hr
    rw [keeps_inj (hu W) (hu' W)]
    exact hr'
  obtain ⟨h15, h25, hm⟩ : mi ≠ 5 ∧ mj ≠ 5 ∧ swaps2 mi mj = true := by
    unfold swaps3 at hm3
    simp only [Bool.or_eq_true, Bool.and_eq_true, beq_iff_eq, bne_iff_ne] at hm3
    rcases hm3 with (h | h) | h
    · exact (h16 h).elim
    · exact (h26 h).elim
    · exact ⟨h.1.1, h.1.2, h.2⟩
  have hheld : ph.held = true := by
    rw [ei] at h
    exact SuIn_held h15 h16 h
  by_cases h1 : mi = 1
  · subst h1
    simp only [ei, SuIn] at h ⊢
    obtain ⟨h0, v, hv, hR⟩ := h
    exact Su_mono hZ hs (fun u ph1 _ _ hk hr => ⟨hk h25 h0, v, hv, hr⟩) hR
  by_cases h2 : mj = 1
  · subst h2
    simp only [ej] at h ⊢
    have hex : ∃ v ph1, ∃ u, (∀ w', Z w' → keeps P oj a w' u) ∧ R v u ph1 := by
      rw [ei] at h
      obtain ⟨v, ph1, _, u, hu, hr⟩ := SuIn_some hs h
      exact ⟨v, ph1, u, hu, hr⟩
    obtain ⟨_, ph1, u, hu, _⟩ := hex
    have hz0 := hs.inZ _ hw0 hheld
    refine ⟨hheld, u, hu, Su_mono hZ hs (fun v ph1 _ _ _ hr => ?_) h⟩
    obtain ⟨_, u', hu', hr'⟩ := hr
    rw [keeps_inj (hu _ hz0) (hu' _ hz0)]
    exact hr'
  simp only [ei, ej] at h ⊢
  have h3 : (mi = 3 ∨ mi = 4) ∧ (mj = 3 ∨ mj = 4) := by
    match mi, mj, hm, h1, h2 with
    | 3, 3, _, _, _ => exact ⟨.inl rfl, .inl rfl⟩
    | 3, 4, _, _, _ => exact ⟨.inl rfl, .inr rfl⟩
    | 4, 3, _, _, _ => exact ⟨.inr rfl, .inl rfl⟩
    | 4, 4, _, _, _ => exact ⟨.inr rfl, .inr rfl⟩
    | 0, n, hm, _, h2 => match n, hm, h2 with | 0, hm, _ => simp [swaps2] at hm | n + 2, hm, _ => simp [swaps2] at hm
    | 2, n, hm, _, h2 => match n, hm, h2 with | 0, hm, _ => simp [swaps2] at hm | n + 2, hm, _ => simp [swaps2] at hm
    | 3, 0, hm, _, _ => simp [swaps2] at hm
    | 3, 2, hm, _, _ => simp [swaps2] at hm
    | 3, n + 5, hm, _, _ => simp [swaps2] at hm
    | 4, 0, hm, _, _ => simp [swaps2] at hm
    | 4, 2, hm, _, _ => simp [swaps2] at hm
    | 4, n + 5, hm, _, _ => simp [swaps2] at hm
    | k + 5, n, hm, _, h2 => match n, hm, h2 with | 0, hm, _ => simp [swaps2] at hm | n + 2, hm, _ => simp [swaps2] at hm
  obtain ⟨rfl | rfl, rfl | rfl⟩ := h3
  · -- makers
    simp only [SuIn] at h ⊢
    obtain ⟨fs, rfl, z, f, hM, h⟩ := h
    have n1 := hni fs rfl
    have n2 := hnj fs rfl
    have hb0 := Holds.fresh hw0
    obtain ⟨_, e, z', f', hM', _⟩ := h _ hb0
    cases e
    refine ⟨fs, rfl, z', f', hM', fun b' hb' => ⟨_, rfl, z, f, hM, fun b hb => ?_⟩⟩
    obtain ⟨g1, g2⟩ := hb.of_put n2
    obtain ⟨_, e, z2, f2, hM2, hR⟩ := h b g1
    cases e
    obtain ⟨rfl, rfl⟩ := makes_inj hM' hM2 W
    have := hR b' (hb'.put (Ne.symm g2))
    rw [Made.put_comm _ _ _ hij] at this
    exact this
  · -- maker, then value
    simp only [SuIn] at h ⊢
    obtain ⟨fs, rfl, z, f, hM, h⟩ := h
    have hb0 := Holds.fresh hw0
    obtain ⟨_, e, v, hv, _⟩ := h _ hb0
    cases e
    have hv' : givesAt P W Dj fs oj a v := fun w hw => hv w ((Holds.put hDj).2 hw)
    refine ⟨fs, rfl, v, hv', fs, rfl, z, f, hM, fun b hb => ?_⟩
    obtain ⟨_, e, v2, hv2, hR⟩ := h b hb
    cases e
    have := gives_inj (hv' w0 (Holds.less hw0)) (hv2 w0 ((Holds.put hDj).2 (Holds.less hw0)))
    rw [this]
    exact hR
  · -- value, then maker
    simp only [SuIn] at h ⊢
    obtain ⟨fs, rfl, v, hv, fs', e, z, f, hM, h⟩ := h
    cases e
    exact ⟨fs, rfl, z, f, hM, fun b hb => ⟨_, rfl, v, fun w hw => hv w ((Holds.put hDi).1 hw), h b hb⟩⟩
  · simp only [SuIn] at h ⊢
    obtain ⟨fs, rfl, v, hv, fs', e, u, hu, h⟩ := h
    cases e
    exact ⟨fs, rfl, u, hu, fs, rfl, v, hv, h⟩

/-! ### Whatever order -/

def anyS (P : Program) (W : World) (md : Region.Mode) (ops : Array Oper) (Z : World → Prop) (mk ms : List Nat) (Q : Act → World → Prop) : Nat → Array Bool → Act → Ph → Prop
  | 0, listed, a, ph => Region.ready md ops listed = [] ∧ ∀ w, ph.J W w → Q a w
  | fuel + 1, listed, a, ph => (Region.ready md ops listed = [] → ∀ w, ph.J W w → Q a w) ∧
    ∀ i ∈ Region.ready md ops listed, ∀ o, ops[i]? = some o → Su P W ops Z (fun k => (mk.getD i 0).testBit k) i (modeAt ms i) o a ph fun v ph' => anyS P W md ops Z mk ms Q fuel (listed.setIfInBounds i true) (a.put o.dst v) ph'

theorem any_of_anyS {mk ms : List Nat} {Q : Exit → Act → World → Prop} (hZ : ∀ w, Below W.heap.size W w → Z w) : ∀ (fuel : Nat) (listed : Array Bool) (a : Act) (ph : Ph) (w : World), ph.J W w → Stand W Z ph →
    anyS P W md ops Z mk ms (Q .normal) fuel listed a ph → wpAny P md ops Q fuel listed a w
  | 0, _, _, _, _, hj, _, h => ⟨h.1, h.2 _ hj⟩
  | fuel + 1, listed, a, ph, w, hj, hs, h => by
    refine ⟨fun hr => h.1 hr w hj, fun i hi => ?_⟩
    obtain ⟨_, o, ho, _⟩ := mem_ready.1 hi
    have hst := h.2 i hi o ho
    unfold wpOp
    simp only [ho]
    unfold Su at hst
    split
    · rename_i hq
      rw [if_pos hq] at hst
      refine .inl (wp_of_leads ?_)
      unfold SuIn at hst
      split at hst
      · obtain ⟨h0, v, hv, hr⟩ := hst; exact leads_of_keeps (hv _ (hs.inZ _ hj h0)) (any_of_anyS hZ fuel _ _ _ _ hj hs hr)
      · obtain ⟨fs, rfl, z, f, hM, hr⟩ := hst
        have hb := Holds.fresh hj
        unfold leads
        rw [hM w]
        exact any_of_anyS hZ fuel _ _ (.soft (fs.put i (w.heap.size, z))) _ (Holds.alloc hj i z) ⟨⟨w.alloc z, Holds.alloc hj i z⟩, fun w' hw' _ => hZ _ hw'.below⟩ (hr _ hb)
      · obtain ⟨fs, rfl, v, hv, hr⟩ := hst
        exact leads_of_gives (hv w (Holds.less hj)) fun w' hb => any_of_anyS hZ fuel _ _ (.soft fs) _ (Holds.step hj hb) hs hr
      · exact leads_mono (fun v w' hz => any_of_anyS hZ fuel _ _ (.done w') _ rfl (Stand.done w') hz) (hst w hj)
      · obtain ⟨v, hv, hr⟩ := hst; exact leads_of_keeps (hv w) (any_of_anyS hZ fuel _ _ _ _ hj hs hr)
      · exact leads_mono (fun v w' hz => any_of_anyS hZ fuel _ _ (.hard w') _ rfl (Stand.hard hz.1) hz.2) (hst.2 w hj)
    · rename_i hq
      rw [if_neg hq] at hst
      exact any_of_anyS hZ fuel _ _ _ _ hj hs hst

def Fits2 (md : Region.Mode) (ops : Array Oper) (ms : List Nat) : Prop :=
  ∀ i j, i < ops.size → j < ops.size → i ≠ j → swaps3 (modeAt ms i) (modeAt ms j) = true ∨ Waits md ops i j ∨ Waits md ops j i

theorem anyS_first {mk ms : List Nat} {Q : Act → World → Prop} {i : Nat} {oi : Oper} (hZ : ∀ w, Below W.heap.size W w → Z w) (hi : ops[i]? = some oi) (hsel : ∀ (j : Nat) (o : Oper) cs b, ops[j]? = some o → o.op ≠ .select cs b) (hfit : Fits2 md ops ms)
    (hmk : ∀ j k, (mk.getD j 0).testBit k = true → Waits md ops k j) :
    ∀ (fuel : Nat) (listed : Array Bool) (a : Act) (ph : Ph), Stand W Z ph → (∀ k, listed.getD k true = false → ph.un k) → Shut md ops listed →
      (∀ j oj, ops[j]? = some oj → j ≠ i → listed.getD j true = false → (∀ e ∈ oj.after, Region.binds md e = true → e.on ≠ i) → oi.apart ops oj = true) →
      i ∈ Region.ready md ops listed →
      (Su P W ops Z (fun k => (mk.getD i 0).testBit k) i (modeAt ms i) oi a ph fun v ph' => anyS P W md ops Z mk ms Q fuel (listed.setIfInBounds i true) (a.put oi.dst v) ph') →
      anyS P W md ops Z mk ms Q (fuel + 1) listed a ph := by
  intro fuel
  induction fuel with
  | zero =>
    intro listed a ph hs hun hshut hfree hr H
    refine ⟨fun h => (by rw [h] at hr; cases hr), fun j hj oj hoj => ?_⟩
    by_cases hji : j = i
    · subst hji; rw [hi] at hoj; cases hoj; exact H
    · exfalso
      have : ∃ v ph', anyS P W md ops Z mk ms Q 0 (listed.setIfInBounds i true) (a.put oi.dst v) ph' := by
        obtain ⟨w0, hw0⟩ := hs.some
        unfold Su at H
        split at H
        · exact SuIn_some hs H
        · exact ⟨_, _, H⟩
      obtain ⟨v, ph', h0, _⟩ := this
      have := ready_mono hj hji
      rw [h0] at this
      cases this
  | succ fuel ih =>
    intro listed a ph hs hun hshut hfree hr H
    refine ⟨fun h => (by rw [h] at hr; cases hr), fun j hj oj hoj => ?_⟩
    by_cases hji : j = i
    · subst hji; rw [hi] at hoj; cases hoj; exact H
    obtain ⟨hjun, oj', hoj', hall⟩ := mem_ready.1 hj
    rw [hoj] at hoj'; cases hoj'
    have hiun := (mem_ready.1 hr).1
    have hnot : ∀ e ∈ oj.after, Region.binds md e = true → e.on ≠ i := fun e he hb heq => by
      have h1 := hall e he hb
      rw [heq, getD_mix hiun] at h1; cases h1
    have hap := hfree j oj hoj hji hjun hnot
    obtain ⟨p1, p2, p3⟩ := Oper.apart_spec hap
    have hwij : ¬ Waits md ops i j := fun h => h.not_ready hshut hiun hj
    have hwji : ¬ Waits md ops j i := fun h => h.not_ready hshut hjun hr
    have hsw : swaps3 (modeAt ms i) (modeAt ms j) = true := by
      rcases hfit i j (ready_lt hr) (ready_lt hj) (Ne.symm hji) with h | h | h
      · exact h
      · exact (hwij h).elim
      · exact (hwji h).elim
    have hfree' : ∀ k ok, ops[k]? = some ok → k ≠ i → (listed.setIfInBounds j true).getD k true = false →
        (∀ e ∈ ok.after, Region.binds md e = true → e.on ≠ i) → oi.apart ops ok = true := fun k ok hk hki hun hno => by
      refine hfree k ok hk hki ?_ hno
      by_cases hjk : j = k
      · subst hjk; exact hjun
      · rw [getD_set_ne true hjk] at hun; exact hun
    have H2 : Su P W ops Z (fun k => (mk.getD i 0).testBit k) i (modeAt ms i) oi a ph fun v ph1 => Su P W ops Z (fun k => (mk.getD j 0).testBit k) j (modeAt ms j) oj a ph1 fun u ph2 =>
        anyS P W md ops Z mk ms Q fuel ((listed.setIfInBounds i true).setIfInBounds j true) ((a.put oi.dst v).put oj.dst u) ph2 :=
      Su_mono hZ hs (fun v ph1 _ _ _ h => (Su_put (fun cs b => hsel j oj cs b hoj) p1).1 (h.2 j (ready_mono hj hji) oj hoj)) H
    have hD : ∀ x y, ¬ Waits md ops x y → (mk.getD y 0).testBit x = false := fun x y h => by
      cases hb : (mk.getD y 0).testBit x with
      | false => rfl
      | true => exact (h (hmk _ _ hb)).elim
    refine Su_mono hZ hs (fun u ph1 hs1 hk1 _ h => ?_) (Su_swap hZ (Ne.symm hji) (hD j i hwji) (hD i j hwij) hsw hs (hun i hiun) (hun j hjun) H2)
    refine ih (listed.setIfInBounds j true) (a.put oj.dst u) ph1 hs1 (fun k hk => ?_) (hshut.set hj) hfree' (ready_mono hr (Ne.symm hji)) ?_
    · by_cases hjk : j = k
      · subst hjk
        rw [Array.getD_eq_getD_getElem?] at hk hjun
        rcases Nat.lt_or_ge j listed.size with h' | h'
        · simp [h'] at hk
        · simp [h'] at hjun
      · rw [getD_set_ne true hjk] at hk
        exact hk1 k (Ne.symm hjk) (hun k hk)
    refine (Su_put (fun cs b => hsel i oi cs b hi) p3).2 (Su_mono hZ hs1 (fun v ph2 _ _ _ h' => ?_) h)
    rw [Array.setIfInBounds_comm _ _ hji, ← Act.put_comm a v u p2]
    exact h'

/-! ### The walk in the order of the text -/

def wpSoft (P : Program) (W : World) (ops : Array Oper) (Z : World → Prop) (mk : List Nat) (Q : Act → World → Prop) : List Oper → List Nat → Nat → Act → Ph → Prop
  | [], _, _, a, ph => ∀ w, ph.J W w → Q a w
  | o :: r, ms, k, a, ph => Su P W ops Z (fun x => (mk.getD k 0).testBit x) k (modeAt ms 0) o a ph fun v ph' => wpSoft P W ops Z mk Q r ms.tail (k + 1) (a.put o.dst v) ph'

theorem anyS_lex {mk ms : List Nat} {Q : Act → World → Prop} (hZ : ∀ w, Below W.heap.size W w → Z w) (hs : Region.noSelect ops = true) (hfit : Fits2 md ops ms)
    (hmk : ∀ j k, (mk.getD j 0).testBit k = true → Waits md ops k j) : ∀ (l : List Oper) (k : Nat) (listed : Array Bool) (a : Act) (ph : Ph), Stand W Z ph → (∀ k, listed.getD k true = false → ph.un k) → Shut md ops listed → (∀ j, l[j]? = ops[k + j]?) →
    Region.lexFrom md ops l.length k listed = true → wpSoft P W ops Z mk Q l (ms.drop k) k a ph → anyS P W md ops Z mk ms Q l.length listed a ph
  | [], _, _, _, _, _, _, _, _, hB, h => ⟨by simpa [Region.lexFrom] using hB, h⟩
  | o :: l, k, listed, a, ph, hst, hun, hshut, hl, hB, h => by
    have h0 : ops[k]? = some o := by simpa using (hl 0).symm
    simp only [List.length_cons, Region.lexFrom, Bool.and_eq_true] at hB
    obtain ⟨⟨hr, hf⟩, hB'⟩ := hB
    have hr' : k ∈ Region.ready md ops listed := by simpa using hr
    have hmode : modeAt (ms.drop k) 0 = modeAt ms k := by simp [modeAt, List.getD_eq_getElem?_getD, List.getElem?_drop]
    simp only [wpSoft, hmode, List.tail_drop] at h
    refine anyS_first hZ h0 (Region.noSelect_spec hs) hfit hmk l.length listed a ph hst hun hshut (Region.free_spec h0 hf) hr' ?_
    refine Su_mono hZ hst (fun v ph1 hs1 hk1 _ h' => anyS_lex hZ hs hfit hmk l (k + 1) _ _ _ hs1 (fun j hj => ?_) (hshut.set hr') (fun j => by have := hl (j + 1); simpa [Nat.add_assoc, Nat.add_comm 1 j] using this) hB' h') h
    by_cases hjk : k = j
    · subst hjk
      have hjun := (mem_ready.1 hr').1
      rcases Nat.lt_or_ge k listed.size with h' | h'
      · simp [h'] at hj
      · simp [h'] at hjun
    · rw [getD_set_ne true hjk] at hj
      exact hk1 j (Ne.symm hjk) (hun j hj)

def pairsS (mk : List Nat) (ms : List Nat) : Nat → Bool
  | 0 => true
  | j + 1 => (List.range j).all (fun i => swaps3 (modeAt ms i) (modeAt ms j) || (mk.getD j 0).testBit i) && pairsS mk ms j
def softB (md : Region.Mode) (l : List Oper) (ms : List Nat) : Bool :=
  lexQ md l && (ms.length == l.length) && pairsS (masks md [] l) ms l.length && (l.zip ms).all fun x => x.2 != 1 || valued x.1.op
theorem pairsS_spec {mk ms : List Nat} : ∀ {n : Nat}, pairsS mk ms n = true → ∀ j i, j < n → i < j → swaps3 (modeAt ms i) (modeAt ms j) = true ∨ (mk.getD j 0).testBit i = true
  | 0, _, j, i, hj, _ => by omega
  | n + 1, h, j, i, hj, hi => by
    simp only [pairsS, Bool.and_eq_true, List.all_eq_true, List.mem_range, Bool.or_eq_true] at h
    by_cases hjn : j = n
    · subst hjn; exact h.1 i hi
    · exact pairsS_spec h.2 j i (by omega) hi
/-- **A REGION THAT DRAWS ITS ORDER AND MAKES MEMORY, WALKED ONCE.** -/
theorem wp_region_soft {id : Nat} {Q : Exit → Act → World → Prop} {a : Act} {w : World} {l : List Oper} (S : Nat → Prop) (ms : List Nat) (hm : P.follows .mixedOrders = true) (hB : softB .any l ms = true)
    (hS : ∀ b, S b → b < w.heap.size) (h : wpSoft P w l.toArray (InExt S w) (masks .any [] l) (Q .normal) l ms 0 a (.soft noMade)) : (Code.region id l.toArray true).wp P Q a w := by
  simp only [softB, Bool.and_eq_true] at hB
  obtain ⟨⟨⟨hB, hlen⟩, hpairs⟩, _⟩ := hB
  have hB := lexB_of_Q hB
  simp only [Region.lexB, Bool.and_eq_true] at hB
  obtain ⟨hs, hlex⟩ := hB
  have hmk : ∀ j i, ((masks .any [] l).getD j 0).testBit i = true → Waits .any l.toArray i j :=
    masks_spec l [] (fun j hj => by simp) (fun j i h => by simp at h)
  have hfit : Fits2 .any l.toArray ms := fun i j hi hj hij => by
    have hi' : i < l.length := by simpa using hi
    have hj' : j < l.length := by simpa using hj
    rcases Nat.lt_or_gt_of_ne hij with h' | h'
    · rcases pairsS_spec hpairs j i hj' h' with h1 | h1
      · exact .inl h1
      · exact .inr (.inl (hmk _ _ h1))
    · rcases pairsS_spec hpairs i j hi' h' with h1 | h1
      · exact .inl (swaps3_symm h1)
      · exact .inr (.inr (hmk _ _ h1))
  have hZ : ∀ w', Below w.heap.size w w' → InExt S w w' := fun w' hb => (InExt.refl S w).below hS hb
  have hJ : Holds w allOf noMade w.drew := ⟨(Below.refl _ _).drew, fun i b z _ he => by cases he⟩
  refine wp_region_any hm (any_of_anyS (W := w) (Z := InExt S w) (mk := masks .any [] l) (ms := ms) hZ _ _ _ (.soft noMade) _ hJ (Stand.soft hZ hJ) ?_)
  have := anyS_lex (P := P) (W := w) (Z := InExt S w) (md := .any) (ops := l.toArray) (Q := Q .normal) hZ hs hfit hmk l 0 (Array.replicate l.toArray.size false) a (.soft noMade) (Stand.soft hZ hJ) (fun k _ fs e => by cases e; rfl) (fun j o ho hj => by rw [getD_replicate_mix] at hj; cases hj) (fun j => by simp) (by simpa using hlex) (by simpa using h)
  simpa using this

/-- The modes by the operations' kinds. -/
def sd (o : Oper) : Nat :=
  match o.op with
  | .alloc .. | .buildSlice .. => 3
  | .call { callee := .value .., .. } => 4
  | .move .. | .assign .. | .pick .. | .extract .. | .indexAddr .. | .fieldAddr .. | .binOp .. | .unOp .. | .index .. | .field .. => 6
  | op => bif valued op then 1 else 5

theorem wp_made {id : Nat} {Q : Exit → Act → World → Prop} {a : Act} {w : World} {l : List Oper} (hm : P.follows .mixedOrders = true) (hB : softB .any l (l.map sd) = true)
    (h : wpSoft P w l.toArray (InExt (fun b => b < w.heap.size) w) (masks .any [] l) (Q .normal) l (l.map sd) 0 a (.soft noMade)) : (Code.region id l.toArray true).wp P Q a w :=
  wp_region_soft (fun b => b < w.heap.size) _ hm hB (fun _ h => h) h
end
section
variable {P : Program} {ops : Array Oper} {S : Nat → Prop} {W : World} {mk : List Nat} {Q : Act → World → Prop} {a : Act} {ph : Ph} {fs : Made} {o : Oper} {r : List Oper} {md : Oper → Nat} {k : Nat}
theorem sx_nil {ms : List Nat} (h : ∀ w, Holds W allOf fs w → Q a w) : wpSoft P W ops (InExt S W) mk Q [] ms k a (.soft fs) := h
theorem sx_end {ms : List Nat} {w : World} (h : Q a w) : wpSoft P W ops (InExt S W) mk Q [] ms k a (.done w) := fun w' e => by
  have e : w' = w := e
  rw [e]
  exact h
theorem sx_free (hm : md o = 1) (hw : Region.wanted o (yielded ops a.tmps) = true) (hv : valued o.op = true) (hh : ph.held = true)
    (h : ∀ K : Act → Prop, (∀ a', wpSoft P W ops (InExt S W) mk Q r (r.map md) (k + 1) a' ph → K a') → o.quiet P a (fun w' => ∃ x : Ext S W, w' = x.1) K) : wpSoft P W ops (InExt S W) mk Q (o :: r) ((o :: r).map md) k a ph := by
  rw [List.map_cons, hm]
  show Su P W ops _ _ k 1 o a ph _
  unfold Su
  rw [if_pos hw]
  obtain ⟨v, h1, h2⟩ := h (fun a' => wpSoft P W ops (InExt S W) mk Q r (r.map md) (k + 1) a' ph) (fun _ h => h)
  exact ⟨hh, v, fun w' hz => keeps_of_quiet hv (h1 w' ⟨⟨w', hz⟩, rfl⟩), h2⟩
/-- A world with nothing in it. -/
def bare : World := { (default : World) with heap := #[] }
theorem inExt_bare (w : World) : InExt (fun _ => False) bare w := ⟨fun _ h => h.elim, Nat.zero_le _⟩
theorem sx_pure (hm : md o = 6) (hw : Region.wanted o (yielded ops a.tmps) = true) (hv : valued o.op = true)
    (h : ∀ K : Act → Prop, (∀ a', wpSoft P W ops (InExt S W) mk Q r (r.map md) (k + 1) a' ph → K a') → o.quiet P a (fun w' => ∃ x : Ext (fun _ => False) bare, w' = x.1) K) : wpSoft P W ops (InExt S W) mk Q (o :: r) ((o :: r).map md) k a ph := by
  rw [List.map_cons, hm]
  show Su P W ops _ _ k 6 o a ph _
  unfold Su
  rw [if_pos hw]
  obtain ⟨v, h1, h2⟩ := h (fun a' => wpSoft P W ops (InExt S W) mk Q r (r.map md) (k + 1) a' ph) (fun _ h => h)
  exact ⟨v, fun w' => keeps_of_quiet hv (h1 w' ⟨⟨w', inExt_bare w'⟩, rfl⟩), h2⟩
/-- A whole array, read. -/
theorem sx_row (hm : md o = 1) (hw : Region.wanted o (yielded ops a.tmps) = true) (hh : ph.held = true) (t : TypeId) (x : Operand) (ho : o.op = .load t x) {e : TypeId} {n : Nat} (ht : Rowed P t e n) {g : Nat} (hx : a.eval x = .pointer (some ⟨g, 0, none⟩)) {cs : Array Value} {u : TypeId}
    (hg : W.heap[g]? = some (.cells cs u (0, 0))) (hS : S g) (hn : cs.size = n) (h : wpSoft P W ops (InExt S W) mk Q r (r.map md) (k + 1) (a.put o.dst (.agg cs)) ph) : wpSoft P W ops (InExt S W) mk Q (o :: r) ((o :: r).map md) k a ph := by
  rw [List.map_cons, hm]
  show Su P W ops _ _ k 1 o a ph _
  unfold Su
  rw [if_pos hw]
  refine ⟨hh, .agg cs, fun w' hz => .inl ?_, h⟩
  have hg' : w'.heap[g]? = some (.cells cs u (0, 0)) := (hz.old g hS).trans hg
  have hr := run_loadVar_row (P := P) w' g u t cs (0, 0) _ hg' ht.under rfl (by rw [hn]; exact ht.size)
  unfold execOp
  simp only [ho, hx, Instr.loadAt, Instr.sureAddr, Sem.run_bind, Sem.run_pure, Result.andThen_ok, hr]
theorem sx_skip {j : Nat} {b : Bool} (_hg : o.guard = some (j, b)) (hw : Region.wanted o (yielded ops a.tmps) = false) (h : wpSoft P W ops (InExt S W) mk Q r (r.map md) (k + 1) (a.put o.dst undef) ph) : wpSoft P W ops (InExt S W) mk Q (o :: r) ((o :: r).map md) k a ph := by
  rw [List.map_cons]
  show Su P W ops _ _ k (md o) o a ph _
  unfold Su
  rw [if_neg (by rw [hw]; exact Bool.false_ne_true)]
  exact h
theorem sx_alloc (hm : md o = 3) (hw : Region.wanted o (yielded ops a.tmps) = true) {cs : Array Value} {t : TypeId} {f : Nat → Value} (h1 : ∀ w : World, (execOp a.eval o).run P w = .ok (.value (f w.heap.size)) (w.alloc (.cells cs t (0, 0))))
    (h2 : ∀ b, W.heap.size ≤ b → Fresh W fs b → wpSoft P W ops (InExt S W) mk Q r (r.map md) (k + 1) (a.put o.dst (f b)) (.soft (fs.put k (b, .cells cs t (0, 0))))) : wpSoft P W ops (InExt S W) mk Q (o :: r) ((o :: r).map md) k a (.soft fs) := by
  rw [List.map_cons, hm]
  show Su P W ops _ _ k 3 o a (.soft fs) _
  unfold Su
  rw [if_pos hw]
  exact ⟨fs, rfl, .cells cs t (0, 0), f, h1, fun b hb => h2 b hb.new hb⟩
/-- A literal slice's own array. -/
theorem sx_build (n : Nat) (hm : md o = 3) (hw : Region.wanted o (yielded ops a.tmps) = true) {cs : Array Value} {t : TypeId} (h1 : ∀ w : World, (execOp a.eval o).run P w = .ok (.value (.slice (some ⟨w.heap.size, 0, none⟩) n n)) (w.alloc (.cells cs t (0, 0))))
    (h2 : ∀ b, W.heap.size ≤ b → Fresh W fs b → wpSoft P W ops (InExt S W) mk Q r (r.map md) (k + 1) (a.put o.dst (.slice (some ⟨b, 0, none⟩) n n)) (.soft (fs.put k (b, .cells cs t (0, 0))))) : wpSoft P W ops (InExt S W) mk Q (o :: r) ((o :: r).map md) k a (.soft fs) :=
  sx_alloc hm hw (f := fun b => .slice (some ⟨b, 0, none⟩) n n) h1 h2
theorem sx_give (hm : md o = 4) (hw : Region.wanted o (yielded ops a.tmps) = true) (v : Value)
    (h1 : ∀ w, Below W.heap.size W w → Holds W (fun x => (mk.getD k 0).testBit x) fs w → gives P o a w v)
    (h2 : wpSoft P W ops (InExt S W) mk Q r (r.map md) (k + 1) (a.put o.dst v) (.soft fs)) : wpSoft P W ops (InExt S W) mk Q (o :: r) ((o :: r).map md) k a (.soft fs) := by
  rw [List.map_cons, hm]
  show Su P W ops _ _ k 4 o a (.soft fs) _
  unfold Su
  rw [if_pos hw]
  exact ⟨fs, rfl, v, fun w hw => h1 w hw.below hw, h2⟩
theorem sx_last (hm : md o = 5) (hw : Region.wanted o (yielded ops a.tmps) = true)
    (h : ∀ w, ph.J W w → ∀ K : Act → World → Prop, (∀ a' w', (a'.defers = a.defers ∧ wpSoft P W ops (InExt S W) mk Q r (r.map md) (k + 1) a' (.done w')) → K a' w') → o.wp P a w K (fun _ _ _ => False)) : wpSoft P W ops (InExt S W) mk Q (o :: r) ((o :: r).map md) k a ph := by
  rw [List.map_cons, hm]
  show Su P W ops _ _ k 5 o a ph _
  unfold Su
  rw [if_pos hw]
  intro w hj
  exact leads_of_wp (R := fun a' w' => wpSoft P W ops (InExt S W) mk Q r (r.map md) (k + 1) a' (.done w')) (h w hj _ fun _ _ h => h)
/-- Two blocks that were made. -/
theorem got2 {w0 w w' : World} {l : List It} {b c : Nat} {cs ds : Array Value} {t u : TypeId} (h : Mem w0 w l) (hb : Below w.heap.size w w') (hx : w.heap.size ≤ b ∧ w'.heap[b]? = some (.cells cs t (0, 0))) (hy : w.heap.size ≤ c ∧ w'.heap[c]? = some (.cells ds u (0, 0)))
    (hbc : b ≠ c) : Mem w0 w' (.c c ds u :: .c b cs t :: l) := by
  have h1 := h.got (x := .c b cs t) hb hx
  have h2 := h.got (x := .c c ds u) hb hy
  exact ⟨h1.below, h2.items.1, ⟨fun d hd e => hbc (by cases hd; cases e; rfl), h2.items.2.1⟩, h1.items⟩
end
attribute [irreducible] wpSoft
end Go.Flo.N

/-! A region that draws its order, in the round of a loop over an iterator: the walk of Mix3 serves. No program is named here. -/
namespace Go.Flo.N
open Go Go.RowKit Go.Flo
section
variable {P : Program} {ops : Array Oper} {md : Region.Mode}

theorem rowsIn_round {n : Nat} {row : String} {args : Array Value} {w : World} {R : Value → World → Prop} (l : Nat) (h : Rows P row args w R) : RowsIn (Fence.wide.inRound l) n P row args w R :=
  fun c cs _ => let ⟨v, w', r, s⟩ := h c cs; ⟨v, w', r, stepsIn_wide.2 s⟩
theorem wpIn_of_leads {n l : Nat} {o : Oper} {a : Act} {w : World} {K : Act → World → Prop} {Q : Exit → Act → World → Prop} (hd : ∀ c, o.op ≠ .defer c) (h : leads P o a w fun v w' => K (a.put o.dst v) w') : o.wpIn (Fence.wide.inRound l) n P a w K Q := by
  refine ⟨fun _ _ => trivial, ?_⟩
  rw [Oper.semAt_eq _ _ _ hd]
  unfold leads at h
  generalize (execOp a.eval o).run P w = r at *
  cases r with
  | ok n w' =>
    cases n <;> simp only [Oper.uponIn] at h ⊢
    case enter f args =>
      refine ⟨fun hx => Bool.noConfusion hx, CallsIn.inRound l (callsIn_wide.2 (h.mono fun e w'' ⟨v, he, hr⟩ => ?_))⟩
      subst he
      exact hr
    case row row args => exact ⟨fun hx => Bool.noConfusion hx, rowsIn_round l h⟩
    all_goals first | exact h | exact h.elim
  | halt x w' => exact h.elim

theorem any_of_anyS_in {n l : Nat} {W : World} {Z : World → Prop} {mk ms : List Nat} {Q : Exit → Act → World → Prop} (hZ : ∀ w, Below W.heap.size W w → Z w) (hd : ∀ (i : Nat) (o : Oper), ops[i]? = some o → ∀ c, o.op ≠ .defer c) : ∀ (fuel : Nat) (listed : Array Bool) (a : Act) (ph : Ph) (w : World), ph.J W w → Stand W Z ph →
    anyS P W md ops Z mk ms (Q .normal) fuel listed a ph → wpAnyIn (Fence.wide.inRound l) n P md ops Q fuel listed a w
  | 0, _, _, _, _, hj, _, h => ⟨h.1, h.2 _ hj⟩
  | fuel + 1, listed, a, ph, w, hj, hs, h => by
    refine ⟨fun hr => h.1 hr w hj, fun i hi => ?_⟩
    obtain ⟨_, o, ho, _⟩ := mem_ready.1 hi
    have hst := h.2 i hi o ho
    unfold wpOpIn
    simp only [ho]
    unfold Su at hst
    split
    · rename_i hq
      rw [if_pos hq] at hst
      refine wpIn_of_leads (hd i o ho) ?_
      unfold SuIn at hst
      split at hst
      · obtain ⟨h0, v, hv, hr⟩ := hst; exact leads_of_keeps (hv _ (hs.inZ _ hj h0)) (any_of_anyS_in hZ hd fuel _ _ _ _ hj hs hr)
      · obtain ⟨fs, rfl, z, f, hM, hr⟩ := hst
        have hb := Holds.fresh hj
        unfold leads
        rw [hM w]
        exact any_of_anyS_in hZ hd fuel _ _ (.soft (fs.put i (w.heap.size, z))) _ (Holds.alloc hj i z) ⟨⟨w.alloc z, Holds.alloc hj i z⟩, fun w' hw' _ => hZ _ hw'.below⟩ (hr _ hb)
      · obtain ⟨fs, rfl, v, hv, hr⟩ := hst
        exact leads_of_gives (hv w (Holds.less hj)) fun w' hb => any_of_anyS_in hZ hd fuel _ _ (.soft fs) _ (Holds.step hj hb) hs hr
      · exact leads_mono (fun v w' hz => any_of_anyS_in hZ hd fuel _ _ (.done w') _ rfl (Stand.done w') hz) (hst w hj)
      · obtain ⟨v, hv, hr⟩ := hst; exact leads_of_keeps (hv w) (any_of_anyS_in hZ hd fuel _ _ _ _ hj hs hr)
      · exact leads_mono (fun v w' hz => any_of_anyS_in hZ hd fuel _ _ (.hard w') _ rfl (Stand.hard hz.1) hz.2) (hst.2 w hj)
    · rename_i hq
      rw [if_neg hq] at hst
      exact ⟨fun _ _ => trivial, any_of_anyS_in hZ hd fuel _ _ _ _ hj hs hst⟩

def noDefer (o : Oper) : Bool := match o.op with | .defer _ => false | _ => true
theorem noDefer_spec {o : Oper} (h : noDefer o = true) : ∀ c, o.op ≠ .defer c := fun c e => by unfold noDefer at h; rw [e] at h; cases h

theorem wpIn_made {n l : Nat} {id : Nat} {Q : Exit → Act → World → Prop} {a : Act} {w : World} {os : List Oper} (hm : P.follows .mixedOrders = true) (hB : softB .any os (os.map sd) = true) (hD : os.all noDefer = true)
    (h : wpSoft P w os.toArray (InExt (fun b => b < w.heap.size) w) (masks .any [] os) (Q .normal) os (os.map sd) 0 a (.soft noMade)) : (Code.region id os.toArray true).wpIn (Fence.wide.inRound l) n P Q a w := by
  simp only [softB, Bool.and_eq_true] at hB
  obtain ⟨⟨⟨hB, hlen⟩, hpairs⟩, _⟩ := hB
  have hB := lexB_of_Q hB
  simp only [Region.lexB, Bool.and_eq_true] at hB
  obtain ⟨hs, hlex⟩ := hB
  have hmk : ∀ j i, ((masks .any [] os).getD j 0).testBit i = true → Waits .any os.toArray i j :=
    masks_spec os [] (fun j hj => by simp) (fun j i h => by simp at h)
  have hfit : Fits2 .any os.toArray (os.map sd) := fun i j hi hj hij => by
    have hi' : i < os.length := by simpa using hi
    have hj' : j < os.length := by simpa using hj
    rcases Nat.lt_or_gt_of_ne hij with h' | h'
    · rcases pairsS_spec hpairs j i hj' h' with h1 | h1
      · exact .inl h1
      · exact .inr (.inl (hmk _ _ h1))
    · rcases pairsS_spec hpairs i j hi' h' with h1 | h1
      · exact .inl (swaps3_symm h1)
      · exact .inr (.inr (hmk _ _ h1))
  have hZ : ∀ w', Below w.heap.size w w' → InExt (fun b => b < w.heap.size) w w' := fun w' hb => (InExt.refl _ w).below (fun _ h => h) hb
  have hJ : Holds w allOf noMade w.drew := ⟨(Below.refl _ _).drew, fun i b z _ he => by cases he⟩
  have hd : ∀ (i : Nat) (o : Oper), os.toArray[i]? = some o → ∀ c, o.op ≠ .defer c := fun i o ho =>
    noDefer_spec (List.all_eq_true.1 hD o (List.mem_of_getElem? (by simpa using ho)))
  refine wpIn_region_any hm (any_of_anyS_in (W := w) (Z := InExt (fun b => b < w.heap.size) w) (mk := masks .any [] os) (ms := os.map sd) hZ hd _ _ _ (.soft noMade) _ hJ (Stand.soft hZ hJ) ?_)
  have := anyS_lex (P := P) (W := w) (Z := InExt (fun b => b < w.heap.size) w) (md := .any) (ops := os.toArray) (Q := Q .normal) hZ hs hfit hmk os 0 (Array.replicate os.toArray.size false) a (.soft noMade) (Stand.soft hZ hJ) (fun k _ fs e => by cases e; rfl) (fun j o ho hj => by rw [getD_replicate_mix] at hj; cases hj) (fun j => by simp) (by simpa using hlex) (by simpa using h)
  simpa using this
end
end Go.Flo.N

/-! Bytes as cells; slices that are read. No program is named here. -/
namespace Go.Flo
open Go Go.RowKit

/-- Bytes as cells. -/
@[irreducible] def bA (l : List UInt8) : Array Value := (l.map fun x => Value.int .u8 (x.toNat : Int)).toArray
@[irreducible] def at8 (l : List UInt8) (j : Nat) : Int := ((l[j]?.getD 0).toNat : Int)
theorem bA_size (l : List UInt8) : (bA l).size = l.length := by unfold bA; simp
theorem at8_get {l : List UInt8} {j : Nat} (h : j < l.length) : at8 l j = (l[j].toNat : Int) := by unfold at8; simp [h]
theorem at8_lo (l : List UInt8) (j : Nat) : 0 ≤ at8 l j := by unfold at8; omega
theorem at8_hi (l : List UInt8) (j : Nat) : at8 l j < 256 := by
  unfold at8
  have := (l[j]?.getD 0).toNat_lt
  omega
theorem bA_get {l : List UInt8} {j : Nat} (h : j < l.length) : (bA l)[j]? = some (.int .u8 (at8 l j)) := by rw [at8_get h]; unfold bA; simp [h]
theorem bA_none {l : List UInt8} {j : Nat} (h : l.length ≤ j) : (bA l)[j]? = none := by rw [Array.getElem?_eq_none]; rw [bA_size]; exact h
theorem bA_set (l : List UInt8) (j : Nat) (x : Int) (h0 : 0 ≤ x) (h1 : x < 256) : (bA l).setIfInBounds j (.int .u8 x) = bA (l.set j (UInt8.ofNat x.toNat)) := by
  apply Array.ext_getElem?
  intro i
  rw [Array.getElem?_setIfInBounds]
  by_cases hi : i < l.length
  · rw [bA_get (l := l.set j _) (by simpa using hi), at8_get (by simpa using hi)]
    by_cases hj : j = i
    · subst hj
      rw [if_pos rfl, if_pos (by rw [bA_size]; exact hi)]
      simp only [List.getElem_set_self]
      congr 2
      rw [UInt8.toNat_ofNat']
      omega
    · rw [if_neg hj, bA_get hi, at8_get hi, List.getElem_set_ne (fun e => hj e)]
  · rw [bA_none (l := l.set j _) (by simpa using Nat.le_of_not_lt hi)]
    by_cases hj : j = i
    · rw [if_pos hj, if_neg (by rw [bA_size]; omega)]
    · rw [if_neg hj, bA_none (by omega)]
theorem bA_one (l : List UInt8) : (bA l).all (·.oneCell') = true := by
  unfold bA
  rw [Array.all_eq_true]
  intro i hi
  simp [Value.oneCell']
theorem bA_inj {l k : List UInt8} (h : bA l = bA k) : l = k := by
  unfold bA at h
  have h := List.map_inj_right (f := fun x : UInt8 => Value.int .u8 (x.toNat : Int)) (fun x y e => by
    simp only [Value.int.injEq, true_and] at e
    exact UInt8.toNat_inj.1 (by omega)) |>.1 (by simpa using h)
  exact h
theorem bA_list (l : List UInt8) : (bA l).toList = l.map fun x => Value.int .u8 (x.toNat : Int) := by unfold bA; simp

/-- A row made of a function. -/
def tab {α : Type} (n : Nat) (f : Nat → α) : List α := (List.range n).map f
@[simp] theorem tab_length {α : Type} (n : Nat) (f : Nat → α) : (tab n f).length = n := by simp [tab]
theorem tab_get {α : Type} {n : Nat} {f : Nat → α} {i : Nat} (h : i < (tab n f).length) : (tab n f)[i] = f i := by simp [tab]
theorem tab_ext {α : Type} {n : Nat} {f : Nat → α} {l : List α} (hl : l.length = n) (h : ∀ i (hi : i < l.length), l[i] = f i) : l = tab n f := by
  apply List.ext_getElem
  · simp [hl]
  · intro i h1 h2; rw [h i h1, tab_get]
theorem tab_congr {α : Type} {n : Nat} {f g : Nat → α} (h : ∀ i, i < n → f i = g i) : tab n f = tab n g := by
  apply List.ext_getElem
  · simp
  · intro i h1 h2; rw [tab_get, tab_get, h i (by simpa using h1)]
theorem tab_set {α : Type} (n : Nat) (f : Nat → α) (j : Nat) (x : α) : (tab n f).set j x = tab n fun i => if i = j then x else f i := by
  apply List.ext_getElem
  · simp
  · intro i h1 h2
    rw [tab_get, List.getElem_set, tab_get]
    by_cases h : j = i
    · rw [if_pos h, if_pos h.symm]
    · rw [if_neg h, if_neg (fun e => h e.symm)]

theorem at8_tab {n : Nat} {f : Nat → UInt8} {i : Nat} (h : i < n) : at8 (tab n f) i = ((f i).toNat : Int) := by rw [at8_get (by simpa using h), tab_get]
theorem bA_tab_set (n : Nat) (f : Nat → UInt8) (i : Nat) (x : UInt8) : (bA (tab n f)).setIfInBounds i (.int .u8 (x.toNat : Int)) = bA (tab n fun j => if j = i then x else f j) := by
  have hlt := x.toNat_lt
  have e : UInt8.ofNat x.toNat = x := by simp
  rw [bA_set _ _ _ (by omega) (by omega), Int.toNat_natCast, tab_set, e]
theorem mem_bA {w0 w : World} {l : List It} {b i n : Nat} {f g : Nat → UInt8} {x : UInt8} {T : TypeId} (h : Mem w0 w (.c b (bA (tab n f)) T :: l)) (hx : ∀ j, j < n → (if j = i then x else f j) = g j) :
    Mem w0 (w.setCell ⟨b, i, none⟩ (.int .u8 (x.toNat : Int))) (.c b (bA (tab n g)) T :: l) := by
  have hlt := x.toNat_lt
  have := h.put 0 rfl i (.int .u8 (x.toNat : Int))
  have e : UInt8.ofNat x.toNat = x := by simp
  rw [bA_set _ _ _ (by omega) (by omega), Int.toNat_natCast, tab_set, e] at this
  rw [← tab_congr hx]
  exact this

/-- The slice v, in a block below n, reads as these bytes. -/
def Rd8At (n : Nat) (w : World) (v : Value) (l : List UInt8) : Prop :=
  (l = [] ∧ ∃ a cap, v = .slice a 0 cap) ∨ (0 < l.length ∧ ∃ b off cap, v = .slice (some ⟨b, off, none⟩) l.length cap ∧ b < n ∧ l.length ≤ cap ∧ ∀ j, j < l.length → w.cell? ⟨b, off + j, none⟩ = some (.int .u8 (at8 l j)))
/-- .. in whatever block. -/
def Rd8 (w : World) (v : Value) (l : List UInt8) : Prop := Rd8At w.heap.size w v l
theorem Rd8At.below {n : Nat} {w w' : World} {v : Value} {l : List UInt8} (h : Rd8At n w v l) (hb : Below n w w') : Rd8At n w' v l := by
  rcases h with h | ⟨h0, b, off, cap, hv, hlt, hc, hj⟩
  · exact .inl h
  · exact .inr ⟨h0, b, off, cap, hv, hlt, hc, fun j hjl => (hb.cell (p := ⟨b, off + j, none⟩) hlt).trans (hj j hjl)⟩
theorem Rd8At.mono {n m : Nat} {w : World} {v : Value} {l : List UInt8} (h : Rd8At n w v l) (hm : n ≤ m) : Rd8At m w v l := by
  rcases h with h | ⟨h0, b, off, cap, hv, hlt, hc, hj⟩
  · exact .inl h
  · exact .inr ⟨h0, b, off, cap, hv, Nat.lt_of_lt_of_le hlt hm, hc, hj⟩
theorem Rd8.below {w w' : World} {v : Value} {l : List UInt8} (h : Rd8 w v l) (hb : Below w.heap.size w w') : Rd8 w' v l := (Rd8At.below h hb).mono hb.size
theorem Rd8.shape {w : World} {v : Value} {l : List UInt8} (h : Rd8 w v l) : ∃ a c, v = .slice a l.length c := by
  rcases h with ⟨rfl, a, c, h⟩ | ⟨_, b, off, cap, h, _⟩
  · exact ⟨a, c, h⟩
  · exact ⟨_, _, h⟩
/-- Where a slice that is not empty lies. -/
theorem Rd8.cells {w : World} {a : Option Addr} {n c : Nat} {l : List UInt8} (h : Rd8 w (.slice a n c) l) (h0 : 0 < l.length) : ∃ b off, a = some ⟨b, off, none⟩ ∧ n = l.length ∧ b < w.heap.size ∧ l.length ≤ c ∧ ∀ j, j < l.length → w.cell? ⟨b, off + j, none⟩ = some (.int .u8 (at8 l j)) := by
  rcases h with ⟨rfl, _⟩ | ⟨_, b, off, cap, h, hb, hc, hj⟩
  · simp at h0
  · cases h; exact ⟨b, off, rfl, rfl, hb, hc, hj⟩
/-- A block of bytes, as a slice of it all. -/
theorem Mem.rd8 {w0 w : World} {l : List It} {b n : Nat} {q : List UInt8} {T : TypeId} (i : Nat) (h : Mem w0 w l) (hi : l[i]? = some (.c b (bA q) T)) (hq : q.length = n) (h0 : 0 < n) : Rd8 w (.slice (some ⟨b, 0, none⟩) n n) q := by
  subst hq
  have hx := h.items.get hi
  refine .inr ⟨h0, b, 0, q.length, rfl, heap_lt hx.2, Nat.le_refl _, fun j hj => ?_⟩
  rw [Nat.zero_add, cell_of_row w b j _ T _ hx.2, bA_get hj]
theorem Mem.rd8At {w0 w : World} {l : List It} {b n : Nat} {q : List UInt8} {T : TypeId} (i : Nat) (h : Mem w0 w l) (hi : l[i]? = some (.c b (bA q) T)) (hq : q.length = n) (h0 : 0 < n) : Rd8At (b + 1) w (.slice (some ⟨b, 0, none⟩) n n) q := by
  subst hq
  have hx := h.items.get hi
  refine .inr ⟨h0, b, 0, q.length, rfl, Nat.lt_succ_self b, Nat.le_refl _, fun j hj => ?_⟩
  rw [Nat.zero_add, cell_of_row w b j _ T _ hx.2, bA_get hj]
end Go.Flo

/-! '==' of rows of bytes. No program is named here. -/
namespace Go.Flo
open Go Go.RowKit
theorem bA_ints (l : List UInt8) : bA l = ((l.map fun x => (x.toNat : Int)).map (Value.int .u8)).toArray := by unfold bA; rw [List.map_map]; rfl
theorem u8_ints_eq (l k : List UInt8) : ((l.map fun x => (x.toNat : Int)) == (k.map fun x => (x.toNat : Int))) = (l == k) := by
  rw [Bool.eq_iff_iff]
  simp only [beq_iff_eq]
  constructor
  · intro h
    exact (List.map_inj_right (f := fun x : UInt8 => (x.toNat : Int)) (fun x y e => UInt8.toNat_inj.1 (by have e' : (x.toNat : Int) = (y.toNat : Int) := e; omega))).1 h
  · intro h; rw [h]
theorem run_equalIn_bA {P : Program} (w : World) (d n : Nat) (t e : TypeId) (l k : List UInt8) (ht : P.underlying t = some (.array n e)) (he : P.underlying e = some (.int .u8)) (hs : (Go.sizeOf e).run P w = .ok 1 w)
    (hl : l.length = n) (hk : k.length = n) : (Op.equalIn (d + 2) t (.agg (bA l)) (.agg (bA k))).run P w = .ok (l == k) w := by
  rw [bA_ints, bA_ints, run_equalIn_ints w d n t e .u8 _ _ ht he hs (by simpa using hl) (by simpa using hk), u8_ints_eq]
@[go_sem] theorem run_equalIn_hash {P : Program} (w : World) (d : Nat) (t e : TypeId) (l k : List UInt8) (hl : l.length = 32) (hk : k.length = 32) (ht : P.underlying t = some (.array 32 e)) (he : P.underlying e = some (.int .u8)) (hs : (Go.sizeOf e).run P w = .ok 1 w) :
    (Op.equalIn (d + 2) t (.agg (bA l)) (.agg (bA k))).run P w = .ok (l == k) w := run_equalIn_bA w d 32 t e l k ht he hs hl hk
/-- Bytes that are all nought. -/
def nought : List UInt8 := tab 32 fun _ => 0
theorem nought_length : nought.length = 32 := rfl
theorem bA_nought : bA nought = #[.int .u8 0, .int .u8 0, .int .u8 0, .int .u8 0, .int .u8 0, .int .u8 0, .int .u8 0, .int .u8 0, .int .u8 0, .int .u8 0, .int .u8 0, .int .u8 0, .int .u8 0, .int .u8 0, .int .u8 0, .int .u8 0, .int .u8 0, .int .u8 0, .int .u8 0, .int .u8 0, .int .u8 0, .int .u8 0, .int .u8 0, .int .u8 0, .int .u8 0, .int .u8 0, .int .u8 0, .int .u8 0, .int .u8 0, .int .u8 0, .int .u8 0, .int .u8 0] := by
  unfold bA
  rfl
@[go_sem] theorem run_equalIn_nought {P : Program} (w : World) (d : Nat) (t e : TypeId) (l : List UInt8) (hl : l.length = 32) (ht : P.underlying t = some (.array 32 e)) (he : P.underlying e = some (.int .u8)) (hs : (Go.sizeOf e).run P w = .ok 1 w) :
    (Op.equalIn (d + 2) t (.agg (bA l)) (.agg #[.int .u8 0, .int .u8 0, .int .u8 0, .int .u8 0, .int .u8 0, .int .u8 0, .int .u8 0, .int .u8 0, .int .u8 0, .int .u8 0, .int .u8 0, .int .u8 0, .int .u8 0, .int .u8 0, .int .u8 0, .int .u8 0, .int .u8 0, .int .u8 0, .int .u8 0, .int .u8 0, .int .u8 0, .int .u8 0, .int .u8 0, .int .u8 0, .int .u8 0, .int .u8 0, .int .u8 0, .int .u8 0, .int .u8 0, .int .u8 0, .int .u8 0, .int .u8 0])).run P w = .ok (l == nought) w := by
  rw [← bA_nought]
  exact run_equalIn_bA w d 32 t e l nought ht he hs hl rfl
end Go.Flo
