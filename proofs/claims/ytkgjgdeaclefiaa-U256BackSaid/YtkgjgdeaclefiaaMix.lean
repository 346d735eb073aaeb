/-
  A region that draws its order: ONE walk in the order of the text serves every order, if each two operations that may change places are such that one of them hands back ONE value in every world of a class Z ('free'), or both only read ('still'). All other operations ('mover') must stand in a chain. No program is named here.
-/
import Derived.WalkKit
import Derived.Test.YtkgjgdeaclefiaaLex
import Derived.Deep.Quiet
import Derived.Still
import Derived.Below
import Derived.KernelRfl
namespace Go.Flo
open Go

/-! ### Who waits for whom -/
section
variable {ops : Array Oper} {md : Region.Mode}

/-- j waits for i: by an edge, or over others. -/
inductive Waits (md : Region.Mode) (ops : Array Oper) (i : Nat) : Nat → Prop
  | edge {j : Nat} {o : Oper} {e : Edge} : ops[j]? = some o → e ∈ o.after → Region.binds md e = true → e.on = i → Waits md ops i j
  | over {j k : Nat} {o : Oper} {e : Edge} : ops[j]? = some o → e ∈ o.after → Region.binds md e = true → e.on = k → Waits md ops i k → Waits md ops i j

/-- What has come up has come up behind all that it waits for. -/
def Shut (md : Region.Mode) (ops : Array Oper) (listed : Array Bool) : Prop :=
  ∀ j o, ops[j]? = some o → listed.getD j false = true → ∀ e ∈ o.after, Region.binds md e = true → listed.getD e.on false = true

theorem Waits.listed {i j : Nat} {listed : Array Bool} (h : Waits md ops i j) (hs : Shut md ops listed) (hj : listed.getD j false = true) : listed.getD i false = true := by
  induction h with
  | edge ho he hb hi => have := hs _ _ ho hj _ he hb; rwa [hi] at this
  | over ho he hb hi _ ih => exact ih (by have := hs _ _ ho hj _ he hb; rwa [hi] at this)

theorem getD_mix {listed : Array Bool} {i : Nat} (h : listed.getD i true = false) : listed.getD i false = false := by
  rcases Nat.lt_or_ge i listed.size with h' | h'
  · simp [h'] at h ⊢; exact h
  · simp [h'] at h

theorem Waits.not_ready {i j : Nat} {listed : Array Bool} (h : Waits md ops i j) (hs : Shut md ops listed) (hi : listed.getD i true = false) (hj : j ∈ Region.ready md ops listed) : False := by
  obtain ⟨_, oj, hoj, hall⟩ := mem_ready.1 hj
  have hi' := getD_mix hi
  cases h with
  | edge ho he hb hon =>
    rw [hoj] at ho; cases ho
    have := hall _ he hb
    rw [hon, hi'] at this; cases this
  | over ho he hb hon hw =>
    rw [hoj] at ho; cases ho
    have h1 := hall _ he hb
    rw [hon] at h1
    have := hw.listed hs h1
    rw [hi'] at this; cases this

theorem Shut.set {listed : Array Bool} {i : Nat} (hs : Shut md ops listed) (hi : i ∈ Region.ready md ops listed) : Shut md ops (listed.setIfInBounds i true) := by
  intro j o ho hj e he hb
  by_cases hji : i = j
  · subst hji
    obtain ⟨_, oj, hoj, hall⟩ := mem_ready.1 hi
    rw [hoj] at ho; cases ho
    exact getD_set_true (hall _ he hb)
  · rw [getD_set_ne false hji] at hj
    exact getD_set_true (hs j o ho hj e he hb)

/-- The masks of those that each waits for, in a row. -/
def maskOf (md : Region.Mode) (acc : List Nat) (o : Oper) : Nat :=
  o.after.toList.foldl (fun s e => if Region.binds md e then s ||| (2 ^ e.on ||| acc.getD e.on 0) else s) 0
def masks (md : Region.Mode) : List Nat → List Oper → List Nat
  | acc, [] => acc
  | acc, o :: r => masks md (acc ++ [maskOf md acc o]) r

theorem maskOf_spec {acc : List Nat} {o : Oper} {i : Nat} (h : (maskOf md acc o).testBit i = true) :
    ∃ e ∈ o.after, Region.binds md e = true ∧ (e.on = i ∨ (acc.getD e.on 0).testBit i = true) := by
  unfold maskOf at h
  have key : ∀ (l : List Edge) (s : Nat), (l.foldl (fun s e => if Region.binds md e then s ||| (2 ^ e.on ||| acc.getD e.on 0) else s) s).testBit i = true →
      s.testBit i = true ∨ ∃ e ∈ l, Region.binds md e = true ∧ (e.on = i ∨ (acc.getD e.on 0).testBit i = true) := by
    intro l
    induction l with
    | nil => intro s h; exact .inl h
    | cons e l ih =>
      intro s h
      rcases ih _ h with h1 | ⟨e', he', r⟩
      · simp only at h1
        by_cases hb : Region.binds md e = true
        · rw [if_pos hb, Nat.testBit_or, Nat.testBit_or, Bool.or_eq_true, Bool.or_eq_true] at h1
          rcases h1 with h1 | h1 | h1
          · exact .inl h1
          · refine .inr ⟨e, by simp, hb, .inl ?_⟩
            rw [Nat.testBit_two_pow] at h1
            simpa using h1
          · exact .inr ⟨e, by simp, hb, .inr h1⟩
        · rw [if_neg hb] at h1; exact .inl h1
      · exact .inr ⟨e', by simp [he'], r⟩
  rcases key _ _ h with h1 | ⟨e, he, r⟩
  · simp at h1
  · exact ⟨e, by simpa using he, r⟩

theorem masks_spec : ∀ (l : List Oper) (acc : List Nat), (∀ j, j < l.length → ops[acc.length + j]? = l[j]?) →
    (∀ j i, (acc.getD j 0).testBit i = true → Waits md ops i j) → ∀ j i, ((masks md acc l).getD j 0).testBit i = true → Waits md ops i j
  | [], _, _, ha => ha
  | o :: r, acc, hl, ha => by
    refine masks_spec r _ (fun j hj => ?_) (fun j i h => ?_)
    · have := hl (j + 1) (by simpa using hj)
      simp only [List.getElem?_cons_succ] at this
      rw [← this]
      congr 1
      simp; omega
    · have ho : ops[acc.length]? = some o := by simpa using hl 0 (by simp)
      rcases Nat.lt_trichotomy j acc.length with hj | hj | hj
      · rw [List.getD_eq_getElem?_getD, List.getElem?_append_left hj, ← List.getD_eq_getElem?_getD] at h
        exact ha j i h
      · subst hj
        rw [List.getD_eq_getElem?_getD, List.getElem?_append_right (Nat.le_refl _), Nat.sub_self] at h
        simp only [List.getElem?_cons_zero, Option.getD_some] at h
        obtain ⟨e, he, hb, h1 | h1⟩ := maskOf_spec h
        · exact .edge ho he hb h1
        · exact .over ho he hb rfl (ha _ _ h1)
      · rw [List.getD_eq_getElem?_getD, List.getElem?_eq_none (by simp; omega)] at h
        simp at h

/-- May two of these modes change places? 0: it moves the world · 1: it hands back one value in every world of the class · 2: it hands back a value and leaves the world. -/
def swaps : Nat → Nat → Bool
  | 1, _ => true
  | _, 1 => true
  | 2, 2 => true
  | _, _ => false

/-- An operation that hands back a value (or nothing), no call of a Go function. -/
def valued : Op → Bool
  | .move _ | .assign _ | .pick .. | .build .. | .load .. | .binOp .. | .unOp .. | .convert .. | .slice .. | .fieldAddr .. | .field .. | .indexAddr .. | .index .. | .lookup .. | .extract .. | .makeInterface .. | .typeAssert .. => true
  | .call { callee := .builtin .len, .. } | .call { callee := .builtin .cap, .. } | .call { callee := .builtin .min, .. } | .call { callee := .builtin .max, .. } => true
  | _ => false

def modeAt (ms : List Nat) (i : Nat) : Nat := ms.getD i 0

def pairsB (mk : List Nat) (ms : List Nat) : Nat → Bool
  | 0 => true
  | j + 1 => (List.range j).all (fun i => swaps (modeAt ms i) (modeAt ms j) || (mk.getD j 0).testBit i) && pairsB mk ms j

def mixB (md : Region.Mode) (l : List Oper) (ms : List Nat) : Bool :=
  lexQ md l && (ms.length == l.length) && pairsB (masks md [] l) ms l.length && (l.zip ms).all fun x => x.2 != 1 || valued x.1.op

theorem pairsB_spec {mk ms : List Nat} : ∀ {n : Nat}, pairsB mk ms n = true → ∀ j i, j < n → i < j → swaps (modeAt ms i) (modeAt ms j) = true ∨ (mk.getD j 0).testBit i = true
  | 0, _, j, i, hj, _ => by omega
  | n + 1, h, j, i, hj, hi => by
    simp only [pairsB, Bool.and_eq_true, List.all_eq_true, List.mem_range, Bool.or_eq_true] at h
    by_cases hjn : j = n
    · subst hjn; exact h.1 i hi
    · exact pairsB_spec h.2 j i (by omega) hi
end

/-! ### What one operation does -/
section
variable {P : Program} {ops : Array Oper} {md : Region.Mode} {Z : World → Prop}

/-- It leads to a value, nothing, or a call that returns. -/
def leads (P : Program) (o : Oper) (a : Act) (w : World) (R : Value → World → Prop) : Prop :=
  match (execOp a.eval o).run P w with
  | .ok (.value v) w' => R v w'
  | .ok .skip w' => R undef w'
  | .ok (.enter f args) w' => Calls P f args w' fun e w'' => ∃ v, e = .returned v ∧ R v w''
  | .ok (.row row args) w' => Rows P row args w' R
  | _ => False

/-- It hands back v, the world as it was. -/
def keeps (P : Program) (o : Oper) (a : Act) (w : World) (v : Value) : Prop :=
  (execOp a.eval o).run P w = .ok (.value v) w ∨ ((execOp a.eval o).run P w = .ok .skip w ∧ v = undef)

theorem keeps_inj {o : Oper} {a : Act} {w : World} {v u : Value} (h : keeps P o a w v) (h' : keeps P o a w u) : v = u := by
  rcases h with h | ⟨h, rfl⟩ <;> rcases h' with h' | ⟨h', rfl⟩ <;> rw [h] at h' <;> first | rfl | cases h'
  all_goals rfl

/-- One operation, in its mode. -/
def StIn (P : Program) (Z : World → Prop) (m : Nat) (o : Oper) (a : Act) (w : World) (R : Value → World → Prop) : Prop :=
  match m with
  | 1 => ∃ v, (∀ w', Z w' → keeps P o a w' v) ∧ R v w
  | 2 => ∃ v, keeps P o a w v ∧ R v w
  | _ => leads P o a w fun v w' => Z w' ∧ R v w'
def St (P : Program) (ops : Array Oper) (Z : World → Prop) (m : Nat) (o : Oper) (a : Act) (w : World) (R : Value → World → Prop) : Prop :=
  if Region.wanted o (yielded ops a.tmps) then StIn P Z m o a w R else R undef w

theorem leads_mono {o : Oper} {a : Act} {w : World} {R R' : Value → World → Prop} (h : ∀ v w, R v w → R' v w) (hh : leads P o a w R) : leads P o a w R' := by
  unfold leads at *
  generalize (execOp a.eval o).run P w = r at *
  cases r with
  | ok n w' =>
    cases n <;> simp only at hh ⊢
    case enter f args => exact hh.mono fun e w'' ⟨v, he, hr⟩ => ⟨v, he, h _ _ hr⟩
    case row row args => exact hh.mono fun v w'' hr => h _ _ hr
    all_goals first | exact h _ _ hh | exact hh
  | halt x w' => exact hh

theorem leads_some {o : Oper} {a : Act} {w : World} {R : Value → World → Prop} (hh : leads P o a w R) : ∃ v w', R v w' := by
  unfold leads at hh
  generalize (execOp a.eval o).run P w = r at *
  cases r with
  | ok n w' =>
    cases n <;> simp only at hh
    case enter f args => obtain ⟨e, w'', _, ⟨v, _, hr⟩, _⟩ := hh []; exact ⟨v, w'', hr⟩
    case row row args => obtain ⟨v, w'', hr, _⟩ := hh default []; exact ⟨v, w'', hr⟩
    all_goals first | exact ⟨_, _, hh⟩ | exact hh.elim
  | halt x w' => exact hh.elim

theorem St_mono {m : Nat} {o : Oper} {a : Act} {w : World} {R R' : Value → World → Prop} (hw : Z w) (h : ∀ v w, Z w → R v w → R' v w) (hh : St P ops Z m o a w R) : St P ops Z m o a w R' := by
  unfold St at *
  split
  · rename_i hq
    rw [if_pos hq] at hh
    match m, hh with
    | 1, ⟨v, h1, h2⟩ => exact ⟨v, h1, h _ _ hw h2⟩
    | 2, ⟨v, h1, h2⟩ => exact ⟨v, h1, h _ _ hw h2⟩
    | 0, hh => exact leads_mono (fun v w' hz => ⟨hz.1, h _ _ hz.1 hz.2⟩) hh
    | n + 3, hh => exact leads_mono (fun v w' hz => ⟨hz.1, h _ _ hz.1 hz.2⟩) hh
  · rename_i hq
    rw [if_neg hq] at hh
    exact h _ _ hw hh

theorem St_put {m : Nat} {o : Oper} {a : Act} {w : World} {R : Value → World → Prop} {d : Option Tmp} {u : Value} (hs : ∀ cs b, o.op ≠ .select cs b) (h : ∀ t, d = some t → t ∉ o.looksAt ops) :
    St P ops Z m o (a.put d u) w R ↔ St P ops Z m o a w R := by
  unfold St StIn keeps leads
  rw [wanted_put o a d u h, execOp_put o hs a d u h]

/-- **TWO OPERATIONS CHANGE PLACES.** -/
theorem St_swap {mi mj : Nat} {oi oj : Oper} {a : Act} {w : World} {R : Value → Value → World → Prop} (hm : swaps mi mj = true) (hw : Z w)
    (h : St P ops Z mi oi a w fun v w1 => St P ops Z mj oj a w1 fun u w2 => R v u w2) :
    St P ops Z mj oj a w fun u w1 => St P ops Z mi oi a w1 fun v w2 => R v u w2 := by
  by_cases hi : Region.wanted oi (yielded ops a.tmps) = true
  case neg =>
    have e : ∀ w (R : Value → World → Prop), St P ops Z mi oi a w R = R undef w := fun w R => by unfold St; rw [if_neg hi]
    rw [e] at h
    simp only [e]
    exact h
  by_cases hj : Region.wanted oj (yielded ops a.tmps) = true
  case neg =>
    have e : ∀ w (R : Value → World → Prop), St P ops Z mj oj a w R = R undef w := fun w R => by unfold St; rw [if_neg hj]
    rw [e]
    simp only [e] at h
    exact h
  have ei : ∀ w (R : Value → World → Prop), St P ops Z mi oi a w R = StIn P Z mi oi a w R := fun w R => by unfold St; rw [if_pos hi]
  have ej : ∀ w (R : Value → World → Prop), St P ops Z mj oj a w R = StIn P Z mj oj a w R := fun w R => by unfold St; rw [if_pos hj]
  by_cases h1 : mi = 1
  · subst h1
    simp only [ei, StIn] at h ⊢
    obtain ⟨v, hv, hR⟩ := h
    exact St_mono hw (fun u w1 _ hr => ⟨v, hv, hr⟩) hR
  by_cases h2 : mj = 1
  · subst h2
    simp only [ej] at h ⊢
    have hex : ∃ v w1, Z w1 ∧ ∃ u, (∀ w', Z w' → keeps P oj a w' u) ∧ R v u w1 := by
      rw [ei] at h
      unfold StIn at h
      split at h
      · obtain ⟨v, _, hr⟩ := h; exact ⟨v, w, hw, hr⟩
      · obtain ⟨v, _, hr⟩ := h; exact ⟨v, w, hw, hr⟩
      · obtain ⟨v, w1, hz, hr⟩ := leads_some h; exact ⟨v, w1, hz, hr⟩
    obtain ⟨_, w0, hz0, u, hu, _⟩ := hex
    refine ⟨u, hu, St_mono hw (fun v w1 hz1 hr => ?_) h⟩
    obtain ⟨u', hu', hr'⟩ := hr
    rw [keeps_inj (hu _ hz0) (hu' _ hz0)]
    exact hr'
  have h3 : mi = 2 ∧ mj = 2 := by
    match mi, mj, hm, h1, h2 with
    | 2, 2, _, _, _ => exact ⟨rfl, rfl⟩
    | 0, 0, hm, _, _ => simp [swaps] at hm
    | 0, n + 2, hm, _, _ => simp [swaps] at hm
    | 2, 0, hm, _, _ => simp [swaps] at hm
    | 2, n + 3, hm, _, _ => simp [swaps] at hm
    | n + 3, 0, hm, _, _ => simp [swaps] at hm
    | n + 3, k + 2, hm, _, _ => simp [swaps] at hm
  obtain ⟨rfl, rfl⟩ := h3
  simp only [ei, ej, StIn] at h ⊢
  obtain ⟨v, hv, u, hu, hr⟩ := h
  exact ⟨u, hu, v, hv, hr⟩


/-! ### Whatever order -/

def anyM (P : Program) (md : Region.Mode) (ops : Array Oper) (Z : World → Prop) (ms : List Nat) (Q : Act → World → Prop) : Nat → Array Bool → Act → World → Prop
  | 0, listed, a, w => Region.ready md ops listed = [] ∧ Q a w
  | fuel + 1, listed, a, w => (Region.ready md ops listed = [] → Q a w) ∧
    ∀ i ∈ Region.ready md ops listed, ∀ o, ops[i]? = some o → St P ops Z (modeAt ms i) o a w fun v w' => anyM P md ops Z ms Q fuel (listed.setIfInBounds i true) (a.put o.dst v) w'

theorem wp_of_leads {o : Oper} {a : Act} {w : World} {K : Act → World → Prop} {Q : Exit → Act → World → Prop} (h : leads P o a w fun v w' => K (a.put o.dst v) w') : o.wp P a w K Q := by
  unfold leads at h
  unfold Oper.wp
  generalize (execOp a.eval o).run P w = r at *
  cases r with
  | ok n w' =>
    cases n <;> simp only [Oper.upon] at h ⊢
    case enter f args => exact h.mono fun e w'' ⟨v, he, hr⟩ => by subst he; exact hr
    all_goals first | exact h | exact h.elim
  | halt x w' => exact h.elim

theorem leads_of_keeps {o : Oper} {a : Act} {w : World} {v : Value} {R : Value → World → Prop} (h : keeps P o a w v) (hr : R v w) : leads P o a w R := by
  unfold leads
  rcases h with h | ⟨h, rfl⟩ <;> rw [h] <;> exact hr

theorem any_of_anyM {ms : List Nat} {Q : Exit → Act → World → Prop} : ∀ (fuel : Nat) (listed : Array Bool) (a : Act) (w : World), Z w →
    anyM P md ops Z ms (Q .normal) fuel listed a w → wpAny P md ops Q fuel listed a w
  | 0, _, _, _, _, h => h
  | fuel + 1, listed, a, w, hw, h => by
    refine ⟨h.1, fun i hi => ?_⟩
    obtain ⟨_, o, ho, _⟩ := mem_ready.1 hi
    have hst := h.2 i hi o ho
    unfold wpOp
    simp only [ho]
    unfold St at hst
    split
    · rename_i hq
      rw [if_pos hq] at hst
      refine .inl (wp_of_leads ?_)
      unfold StIn at hst
      split at hst
      · obtain ⟨v, hv, hr⟩ := hst; exact leads_of_keeps (hv _ hw) (any_of_anyM fuel _ _ _ hw hr)
      · obtain ⟨v, hv, hr⟩ := hst; exact leads_of_keeps hv (any_of_anyM fuel _ _ _ hw hr)
      · exact leads_mono (fun v w' hz => any_of_anyM fuel _ _ _ hz.1 hz.2) hst
    · rename_i hq
      rw [if_neg hq] at hst
      exact any_of_anyM fuel _ _ _ hw hst

/-- Each two that may change places, or wait for each other. -/
def Fits (md : Region.Mode) (ops : Array Oper) (ms : List Nat) : Prop :=
  ∀ i j, i < ops.size → j < ops.size → i ≠ j → swaps (modeAt ms i) (modeAt ms j) = true ∨ Waits md ops i j ∨ Waits md ops j i

theorem ready_lt {i : Nat} {listed : Array Bool} (h : i ∈ Region.ready md ops listed) : i < ops.size := by
  obtain ⟨_, o, ho, _⟩ := mem_ready.1 h
  rcases Nat.lt_or_ge i ops.size with h' | h'
  · exact h'
  · simp [Array.getElem?_eq_none h'] at ho

theorem anyM_first {ms : List Nat} {Q : Act → World → Prop} {i : Nat} {oi : Oper} (hi : ops[i]? = some oi) (hsel : ∀ (j : Nat) (o : Oper) cs b, ops[j]? = some o → o.op ≠ .select cs b) (hfit : Fits md ops ms) :
    ∀ (fuel : Nat) (listed : Array Bool) (a : Act) (w : World), Z w → Shut md ops listed →
      (∀ j oj, ops[j]? = some oj → j ≠ i → listed.getD j true = false → (∀ e ∈ oj.after, Region.binds md e = true → e.on ≠ i) → oi.apart ops oj = true) →
      i ∈ Region.ready md ops listed →
      (St P ops Z (modeAt ms i) oi a w fun v w' => anyM P md ops Z ms Q fuel (listed.setIfInBounds i true) (a.put oi.dst v) w') →
      anyM P md ops Z ms Q (fuel + 1) listed a w := by
  intro fuel
  induction fuel with
  | zero =>
    intro listed a w hw hshut hfree hr H
    refine ⟨fun h => (by rw [h] at hr; cases hr), fun j hj oj hoj => ?_⟩
    by_cases hji : j = i
    · subst hji; rw [hi] at hoj; cases hoj; exact H
    · exfalso
      have : ∃ v w', anyM P md ops Z ms Q 0 (listed.setIfInBounds i true) (a.put oi.dst v) w' := by
        unfold St at H
        split at H
        · unfold StIn at H
          split at H
          · obtain ⟨v, _, h⟩ := H; exact ⟨v, w, h⟩
          · obtain ⟨v, _, h⟩ := H; exact ⟨v, w, h⟩
          · obtain ⟨v, w', _, h⟩ := leads_some H; exact ⟨v, w', h⟩
        · exact ⟨_, _, H⟩
      obtain ⟨v, w', h0, _⟩ := this
      have := ready_mono hj hji
      rw [h0] at this
      cases this
  | succ fuel ih =>
    intro listed a w hw hshut hfree hr H
    refine ⟨fun h => (by rw [h] at hr; cases hr), fun j hj oj hoj => ?_⟩
    by_cases hji : j = i
    · subst hji; rw [hi] at hoj; cases hoj; exact H
    obtain ⟨hjun, oj', hoj', hall⟩ := mem_ready.1 hj
    rw [hoj] at hoj'; cases hoj'
    have hiun := (mem_ready.1 hr).1
    have hnot : ∀ e ∈ oj.after, Region.binds md e = true → e.on ≠ i := fun e he hb heq => by
      have h1 := hall e he hb
      rw [heq, getD_mix hiun] at h1; cases h1
    have hap := hfree j oj hoj hji hjun hnot
    obtain ⟨p1, p2, p3⟩ := Oper.apart_spec hap
    have hsw : swaps (modeAt ms i) (modeAt ms j) = true := by
      rcases hfit i j (ready_lt hr) (ready_lt hj) (Ne.symm hji) with h | h | h
      · exact h
      · exact (h.not_ready hshut hiun hj).elim
      · exact (h.not_ready hshut hjun hr).elim
    have hfree' : ∀ k ok, ops[k]? = some ok → k ≠ i → (listed.setIfInBounds j true).getD k true = false →
        (∀ e ∈ ok.after, Region.binds md e = true → e.on ≠ i) → oi.apart ops ok = true := fun k ok hk hki hun hno => by
      refine hfree k ok hk hki ?_ hno
      by_cases hjk : j = k
      · subst hjk; exact hjun
      · rw [getD_set_ne true hjk] at hun; exact hun
    have H2 : St P ops Z (modeAt ms i) oi a w fun v w1 => St P ops Z (modeAt ms j) oj a w1 fun u w2 =>
        anyM P md ops Z ms Q fuel ((listed.setIfInBounds i true).setIfInBounds j true) ((a.put oi.dst v).put oj.dst u) w2 :=
      St_mono hw (fun v w1 _ h => (St_put (fun cs b => hsel j oj cs b hoj) p1).1 (h.2 j (ready_mono hj hji) oj hoj)) H
    refine St_mono hw (fun u w1 hz1 h => ?_) (St_swap hsw hw H2)
    refine ih (listed.setIfInBounds j true) (a.put oj.dst u) w1 hz1 (hshut.set hj) hfree' (ready_mono hr (Ne.symm hji)) ?_
    refine (St_put (fun cs b => hsel i oi cs b hi) p3).2 (St_mono hz1 (fun v w2 _ h' => ?_) h)
    rw [Array.setIfInBounds_comm _ _ hji, ← Act.put_comm a v u p2]
    exact h'

/-! ### The walk in the order of the text -/

def wpMix (P : Program) (ops : Array Oper) (Z : World → Prop) (Q : Act → World → Prop) : List Oper → List Nat → Act → World → Prop
  | [], _, a, w => Q a w
  | o :: r, ms, a, w => St P ops Z (modeAt ms 0) o a w fun v w' => wpMix P ops Z Q r ms.tail (a.put o.dst v) w'

theorem anyM_lex {ms : List Nat} {Q : Act → World → Prop} (hs : Region.noSelect ops = true) (hfit : Fits md ops ms) : ∀ (l : List Oper) (k : Nat) (listed : Array Bool) (a : Act) (w : World), Z w → Shut md ops listed → (∀ j, l[j]? = ops[k + j]?) →
    Region.lexFrom md ops l.length k listed = true → wpMix P ops Z Q l (ms.drop k) a w → anyM P md ops Z ms Q l.length listed a w
  | [], _, _, _, _, _, _, _, hB, h => ⟨by simpa [Region.lexFrom] using hB, h⟩
  | o :: l, k, listed, a, w, hw, hshut, hl, hB, h => by
    have h0 : ops[k]? = some o := by simpa using (hl 0).symm
    simp only [List.length_cons, Region.lexFrom, Bool.and_eq_true] at hB
    obtain ⟨⟨hr, hf⟩, hB'⟩ := hB
    have hr' : k ∈ Region.ready md ops listed := by simpa using hr
    have hmode : modeAt (ms.drop k) 0 = modeAt ms k := by simp [modeAt, List.getD_eq_getElem?_getD, List.getElem?_drop]
    simp only [wpMix, hmode, List.tail_drop] at h
    refine anyM_first h0 (Region.noSelect_spec hs) hfit l.length listed a w hw hshut (Region.free_spec h0 hf) hr' ?_
    exact St_mono hw (fun v w1 hz1 h' => anyM_lex hs hfit l (k + 1) _ _ _ hz1 (hshut.set hr') (fun j => by have := hl (j + 1); simpa [Nat.add_assoc, Nat.add_comm 1 j] using this) hB' h') h

theorem getD_replicate_mix {n i : Nat} : (Array.replicate n false).getD i false = false := by
  rcases Nat.lt_or_ge i n with h | h
  · simp [h]
  · simp [h]

/-- **A REGION THAT DRAWS ITS ORDER, WALKED ONCE.** -/
theorem wp_region_mix {id : Nat} {Q : Exit → Act → World → Prop} {a : Act} {w : World} {l : List Oper} (Z : World → Prop) (ms : List Nat) (hm : P.follows .mixedOrders = true) (hB : mixB .any l ms = true)
    (hz : Z w.drew) (h : wpMix P l.toArray Z (Q .normal) l ms a w.drew) : (Code.region id l.toArray true).wp P Q a w := by
  simp only [mixB, Bool.and_eq_true] at hB
  obtain ⟨⟨⟨hB, hlen⟩, hpairs⟩, _⟩ := hB
  have hB := lexB_of_Q hB
  simp only [Region.lexB, Bool.and_eq_true] at hB
  obtain ⟨hs, hlex⟩ := hB
  have hmk : ∀ j i, ((masks .any [] l).getD j 0).testBit i = true → Waits .any l.toArray i j :=
    masks_spec l [] (fun j hj => by simp) (fun j i h => by simp at h)
  have hfit : Fits .any l.toArray ms := fun i j hi hj hij => by
    have hi' : i < l.length := by simpa using hi
    have hj' : j < l.length := by simpa using hj
    rcases Nat.lt_or_gt_of_ne hij with h' | h'
    · rcases pairsB_spec hpairs j i hj' h' with h1 | h1
      · exact .inl h1
      · exact .inr (.inl (hmk _ _ h1))
    · rcases pairsB_spec hpairs i j hi' h' with h1 | h1
      · refine .inl ?_
        revert h1
        generalize modeAt ms i = x
        generalize modeAt ms j = y
        match x, y with
        | 1, 0 => exact fun _ => rfl
        | 1, 1 => exact fun _ => rfl
        | 1, n + 2 => exact fun _ => rfl
        | 0, 1 => exact fun _ => rfl
        | 2, 1 => exact fun _ => rfl
        | n + 3, 1 => exact fun _ => rfl
        | 2, 2 => exact fun _ => rfl
        | 0, 0 => intro h; simp [swaps] at h
        | 0, n + 2 => intro h; simp [swaps] at h
        | 2, 0 => intro h; simp [swaps] at h
        | 2, n + 3 => intro h; simp [swaps] at h
        | n + 3, 0 => intro h; simp [swaps] at h
        | n + 3, k + 2 => intro h; simp [swaps] at h
      · exact .inr (.inr (hmk _ _ h1))
  refine wp_region_any hm (any_of_anyM (Z := Z) (ms := ms) _ _ _ _ hz ?_)
  have := anyM_lex (P := P) (Z := Z) (md := .any) (ops := l.toArray) (Q := Q .normal) hs hfit l 0 (Array.replicate l.toArray.size false) a w.drew hz (fun j o ho hj => by rw [getD_replicate_mix] at hj; cases hj) (fun j => by simp) (by simpa using hlex) (by simpa using h)
  simpa using this

/-! ### Steps -/

theorem value_of_bind {s : Sem Value} {w w' : World} {n : Next} (h : (do pure (Next.value (← s)) : Sem Next).run P w = .ok n w') : ∃ v, n = .value v := by
  rw [Sem.run_bind] at h
  cases hs : s.run P w with
  | ok v w1 =>
    rw [hs] at h
    simp only [Result.andThen_ok] at h
    cases h
    exact ⟨v, rfl⟩
  | halt x w1 => rw [hs] at h; cases h

theorem not_enter {o : Oper} {ρ : Operand → Value} {w w' : World} {f : FuncId} {args : Array Value} (hv : valued o.op = true) : (execOp ρ o).run P w ≠ .ok (.enter f args) w' := by
  obtain ⟨dst, op, type, pos, after, guard⟩ := o
  intro h
  have key : ∀ s : Sem Value, (do pure (Next.value (← s)) : Sem Next).run P w = .ok (.enter f args) w' → False := fun s h => by
    obtain ⟨v, hv⟩ := value_of_bind h
    cases hv
  unfold execOp at h
  cases op <;> simp only [valued, Bool.false_eq_true] at hv <;> simp only at h
  all_goals first
    | exact key _ h
    | (cases h; done)
    | skip
  case pick c x y =>
    rw [Sem.run_bind] at h
    generalize (asBool (ρ c)).run P w = r at h
    cases r <;> cases h
  case call c =>
    obtain ⟨callee, cargs, ts⟩ := c
    cases callee <;> try (cases hv; done)
    rename_i b
    cases b <;> first | exact key _ h | cases hv

theorem keeps_of_quiet {C : World → Prop} {o : Oper} {a : Act} {w : World} {v : Value} (hv : valued o.op = true) (h : o.quietAt P a C w v) : keeps P o a w v := by
  unfold Oper.quietAt at h
  unfold keeps
  generalize hr : (execOp a.eval o).run P w = r at *
  cases r with
  | ok n w' =>
    cases n <;> simp only [Oper.quietUpon] at h
    case value u => obtain ⟨rfl, rfl⟩ := h; exact .inl rfl
    case skip => obtain ⟨rfl, rfl⟩ := h; exact .inr ⟨rfl, rfl⟩
    case enter f args => exact (not_enter hv hr).elim
  | halt x w' => simp only [Oper.quietUpon] at h

section
variable {Q : Act → World → Prop} {a : Act} {w : World} {o : Oper} {r : List Oper} {ms : List Nat}
theorem mix_nil (h : Q a w) : wpMix P ops Z Q [] ms a w := h
/-- One value, in every world of the class. -/
theorem mix_free (hw : Region.wanted o (yielded ops a.tmps) = true) (hv : valued o.op = true)
    (h : ∀ K : Act → Prop, (∀ a', wpMix P ops Z Q r ms a' w → K a') → o.quiet P a Z K) : wpMix P ops Z Q (o :: r) (1 :: ms) a w := by
  obtain ⟨v, h1, h2⟩ := h (fun a' => wpMix P ops Z Q r ms a' w) (fun _ h => h)
  show St P ops Z 1 o a w _
  unfold St
  rw [if_pos hw]
  exact ⟨v, fun w' hz => keeps_of_quiet hv (h1 w' hz), h2⟩
/-- Passed over. -/
theorem mix_skip {m j : Nat} {b : Bool} (_hg : o.guard = some (j, b)) (hw : Region.wanted o (yielded ops a.tmps) = false) (h : wpMix P ops Z Q r ms (a.put o.dst undef) w) : wpMix P ops Z Q (o :: r) (m :: ms) a w := by
  show St P ops Z m o a w _
  unfold St
  rw [if_neg (by rw [hw]; exact Bool.false_ne_true)]
  exact h
theorem leads_of_wp {R : Act → World → Prop} (h : o.wp P a w (fun a' w' => a'.defers = a.defers ∧ R a' w') (fun _ _ _ => False)) : leads P o a w fun v w' => R (a.put o.dst v) w' := by
  unfold Oper.wp at h
  unfold leads
  generalize (execOp a.eval o).run P w = r at *
  cases r with
  | ok n w' =>
    cases n <;> simp only [Oper.upon] at h ⊢
    case enter f args =>
      refine h.mono fun e w'' he => ?_
      cases e with
      | returned v => exact ⟨v, rfl, he.2⟩
      | panicked c => exact he.elim
      | outgrown => obtain ⟨_, _, h⟩ := he; exact h.elim
    case row row args => exact h.mono fun v w'' he => he.2
    case defer d =>
      exfalso
      have := h.1
      cases hd : o.dst <;> simp [Act.put, hd] at this
    all_goals first | exact h.2 | exact h.elim
  | halt x w' => cases x <;> exact h.elim
/-- It moves the world. -/
theorem mix_move (hw : Region.wanted o (yielded ops a.tmps) = true)
    (h : ∀ K : Act → World → Prop, (∀ a' w', (a'.defers = a.defers ∧ Z w' ∧ wpMix P ops Z Q r ms a' w') → K a' w') → o.wp P a w K (fun _ _ _ => False)) : wpMix P ops Z Q (o :: r) (0 :: ms) a w := by
  show St P ops Z 0 o a w _
  unfold St
  rw [if_pos hw]
  exact leads_of_wp (R := fun a' w' => Z w' ∧ wpMix P ops Z Q r ms a' w') (h _ fun _ _ h => h)
/-- It reads this very world. -/
theorem mix_still (hw : Region.wanted o (yielded ops a.tmps) = true) (hv : valued o.op = true)
    (h : ∀ K : Act → Prop, (∀ a', wpMix P ops Z Q r ms a' w → K a') → o.still P a w K) : wpMix P ops Z Q (o :: r) (2 :: ms) a w := by
  have h' := h (fun a' => wpMix P ops Z Q r ms a' w) (fun _ h => h)
  show St P ops Z 2 o a w _
  unfold St
  rw [if_pos hw]
  unfold Oper.still at h'
  generalize hr : (execOp a.eval o).run P w = x at *
  cases x with
  | ok n w' =>
    cases n <;> simp only [Oper.stillUpon] at h'
    case value u => obtain ⟨rfl, h2⟩ := h'; exact ⟨u, .inl hr, h2⟩
    case skip => obtain ⟨rfl, h2⟩ := h'; exact ⟨undef, .inr ⟨hr, rfl⟩, h2⟩
    case enter f args => exact (not_enter hv hr).elim
  | halt x w' => simp only [Oper.stillUpon] at h'
end
end
/-- The modes by the operations' kinds: what reads memory is 'still'. -/
def rd (o : Oper) : Nat :=
  match o.op with
  | .load .. | .lookup .. | .convert .. => 2
  | op => bif valued op then 1 else 0
/-- .. or it hands back one value in every world of the class. -/
def hd (o : Oper) : Nat := bif valued o.op then 1 else 0
theorem wp_region_auto {P : Program} {id : Nat} {Q : Exit → Act → World → Prop} {a : Act} {w : World} {l : List Oper} (Z : World → Prop) (md : Oper → Nat) (hm : P.follows .mixedOrders = true) (hB : mixB .any l (l.map md) = true)
    (hz : Z w.drew) (h : wpMix P l.toArray Z (Q .normal) l (l.map md) a w.drew) : (Code.region id l.toArray true).wp P Q a w :=
  wp_region_mix Z _ hm hB hz h
section
variable {P : Program} {ops : Array Oper} {Z : World → Prop} {Q : Act → World → Prop} {a : Act} {w : World} {o : Oper} {r : List Oper} {md : Oper → Nat}
theorem au_free (hm : md o = 1) (hw : Region.wanted o (yielded ops a.tmps) = true) (hv : valued o.op = true)
    (h : ∀ K : Act → Prop, (∀ a', wpMix P ops Z Q r (r.map md) a' w → K a') → o.quiet P a Z K) : wpMix P ops Z Q (o :: r) ((o :: r).map md) a w := by
  rw [List.map_cons, hm]; exact mix_free hw hv h
theorem au_still (hm : md o = 2) (hw : Region.wanted o (yielded ops a.tmps) = true) (hv : valued o.op = true)
    (h : ∀ K : Act → Prop, (∀ a', wpMix P ops Z Q r (r.map md) a' w → K a') → o.still P a w K) : wpMix P ops Z Q (o :: r) ((o :: r).map md) a w := by
  rw [List.map_cons, hm]; exact mix_still hw hv h
theorem au_move (hm : md o = 0) (hw : Region.wanted o (yielded ops a.tmps) = true)
    (h : ∀ K : Act → World → Prop, (∀ a' w', (a'.defers = a.defers ∧ Z w' ∧ wpMix P ops Z Q r (r.map md) a' w') → K a' w') → o.wp P a w K (fun _ _ _ => False)) : wpMix P ops Z Q (o :: r) ((o :: r).map md) a w := by
  rw [List.map_cons, hm]; exact mix_move hw h
theorem au_skip {j : Nat} {b : Bool} (hg : o.guard = some (j, b)) (hw : Region.wanted o (yielded ops a.tmps) = false) (h : wpMix P ops Z Q r (r.map md) (a.put o.dst undef) w) : wpMix P ops Z Q (o :: r) ((o :: r).map md) a w := by
  rw [List.map_cons]; exact mix_skip hg hw h
theorem au_nil (h : Q a w) : wpMix P ops Z Q [] ([].map md) a w := mix_nil h
end
/-! ### The class of worlds in which some blocks are as they were -/

structure InExt (S : Nat → Prop) (W w : World) : Prop where
  old : ∀ b, S b → w.heap[b]? = W.heap[b]?
  size : W.heap.size ≤ w.heap.size
theorem InExt.refl (S : Nat → Prop) (W : World) : InExt S W W := ⟨fun _ _ => rfl, Nat.le_refl _⟩
theorem InExt.drew {S : Nat → Prop} {W w : World} (h : InExt S W w) : InExt S W w.drew := ⟨h.old, h.size⟩
theorem InExt.below {S : Nat → Prop} {W w w' : World} (h : InExt S W w) (hS : ∀ b, S b → b < W.heap.size) (hb : RowKit.Below w.heap.size w w') : InExt S W w' :=
  ⟨fun b hs => (hb.block b (Nat.lt_of_lt_of_le (hS b hs) h.size)).trans (h.old b hs), Nat.le_trans h.size hb.size⟩
theorem InExt.alloc {S : Nat → Prop} {W w : World} (h : InExt S W w) (hS : ∀ b, S b → b < W.heap.size) (o : Obj) : InExt S W (w.alloc o) :=
  h.below hS ((RowKit.Below.refl _ _).alloc (Nat.le_refl _) o)
theorem InExt.setCell {S : Nat → Prop} {W w : World} (h : InExt S W w) {p : Addr} (hp : ¬ S p.block) (v : Value) : InExt S W (w.setCell p v) :=
  ⟨fun b hs => (RowKit.Below.heap_setCell w p v b (fun e => hp (e ▸ hs))).trans (h.old b hs), by simpa [World.setCell] using h.size⟩
/-- The class as a type. -/
def Ext (S : Nat → Prop) (W : World) : Type := { w : World // InExt S W w }
instance (S : Nat → Prop) (W : World) : Nonempty (Ext S W) := ⟨⟨W, InExt.refl S W⟩⟩
@[go_sem] theorem Ext.cell {S : Nat → Prop} {W : World} (x : Ext S W) {b i : Nat} (h : S b) : x.1.cell? ⟨b, i, none⟩ = W.cell? ⟨b, i, none⟩ := World.cell?_of_block (w := W) (x.2.old b h)
theorem Ext.block {S : Nat → Prop} {W : World} (x : Ext S W) {b : Nat} (h : S b) : x.1.heap[b]? = W.heap[b]? := x.2.old b h

section
variable {P : Program} {ops : Array Oper} {S : Nat → Prop} {W : World} {Q : Act → World → Prop} {a : Act} {w : World} {o : Oper} {r : List Oper} {md : Oper → Nat}
theorem wp_region_held {id : Nat} {Q : Exit → Act → World → Prop} {l : List Oper} (S : Nat → Prop) (hm : P.follows .mixedOrders = true) (hB : mixB .any l (l.map hd) = true)
    (h : wpMix P l.toArray (InExt S w) (Q .normal) l (l.map hd) a w.drew) : (Code.region id l.toArray true).wp P Q a w :=
  wp_region_mix (InExt S w) _ hm hB (InExt.refl S w).drew h
theorem hx_free (hm : md o = 1) (hw : Region.wanted o (yielded ops a.tmps) = true) (hv : valued o.op = true)
    (h : ∀ K : Act → Prop, (∀ a', wpMix P ops (InExt S W) Q r (r.map md) a' w → K a') → o.quiet P a (fun w' => ∃ x : Ext S W, w' = x.1) K) : wpMix P ops (InExt S W) Q (o :: r) ((o :: r).map md) a w := by
  refine au_free hm hw hv fun K hK => ?_
  obtain ⟨v, h1, h2⟩ := h K hK
  refine ⟨v, fun w' hz => ?_, h2⟩
  have := h1 w' ⟨⟨w', hz⟩, rfl⟩
  unfold Oper.quietAt at *
  generalize hr : (execOp a.eval o).run P w' = x at *
  cases x with
  | ok n w1 =>
    cases n <;> simp only [Oper.quietUpon] at this ⊢
    case enter f args => exact (not_enter hv hr).elim
    all_goals exact this
  | halt x w1 => simp only [Oper.quietUpon] at this
end

theorem below_step {w W w1 : World} (h : RowKit.Below w.heap.size w W) (hb : RowKit.Below W.heap.size W w1) : RowKit.Below w.heap.size w w1 := h.trans (hb.mono h.size)
theorem heap_alloc_get (w : World) (o : Obj) (i : Nat) : (w.alloc o).heap[i]? = if i = w.heap.size then some o else w.heap[i]? := by
  show (w.heap.push o)[i]? = _
  rw [Array.getElem?_push]
theorem heap_setCell_get (w : World) (a : Addr) (v : Value) (i : Nat) (h : i ≠ a.block) : (w.setCell a v).heap[i]? = w.heap[i]? := RowKit.Below.heap_setCell w a v i h
/-- What a callee that makes memory leaves of old cells, for the walk. -/
theorem bcell {W w1 : World} (hb : RowKit.Below W.heap.size W w1) : (∀ b o, b < W.heap.size → w1.cell? ⟨b, o, none⟩ = W.cell? ⟨b, o, none⟩) ∧ (∀ b o, b < W.heap.size → w1.frozen? ⟨b, o, none⟩ = W.frozen? ⟨b, o, none⟩) ∧ W.heap.size ≤ w1.heap.size :=
  ⟨fun b o h => hb.cell (p := ⟨b, o, none⟩) h, fun b o h => hb.frozen (p := ⟨b, o, none⟩) h, hb.size⟩
attribute [irreducible] wpMix
end Go.Flo
