/-
  A region that draws its order, walked once in the order of the text, where an operation may read what a call made ahead of it: its value is the same in every world that grows out of this one. No program is named here.
-/
import Derived.Test.YtkgjgdeaclefiaaLx
namespace Go.Flo.Kp
open Go Go.Flo Go.RowKit

/-- 1: one value in every world of the class · 2: one value in every world that grows out of this one · else: it moves the world, which grows. -/
def swaps : Nat → Nat → Bool
  | 1, _ => true
  | _, 1 => true
  | 2, _ => true
  | _, _ => false
def pairsB (mk : List Nat) (ms : List Nat) : Nat → Bool
  | 0 => true
  | j + 1 => (List.range j).all (fun i => swaps (modeAt ms i) (modeAt ms j) || (mk.getD j 0).testBit i) && pairsB mk ms j
def mixB (md : Region.Mode) (l : List Oper) (ms : List Nat) : Bool := lexQ md l && (ms.length == l.length) && pairsB (masks md [] l) ms l.length
theorem pairsB_spec {mk ms : List Nat} : ∀ {n : Nat}, pairsB mk ms n = true → ∀ j i, j < n → i < j → swaps (modeAt ms i) (modeAt ms j) = true ∨ (mk.getD j 0).testBit i = true
  | 0, _, j, i, hj, _ => by omega
  | n + 1, h, j, i, hj, hi => by
    simp only [pairsB, Bool.and_eq_true, List.all_eq_true, List.mem_range, Bool.or_eq_true] at h
    by_cases hjn : j = n
    · subst hjn; exact h.1 i hi
    · exact pairsB_spec h.2 j i (by omega) hi
section
variable {P : Program} {ops : Array Oper} {md : Region.Mode} {Z : World → Prop}
def StIn (P : Program) (Z : World → Prop) (m : Nat) (o : Oper) (a : Act) (w : World) (R : Value → World → Prop) : Prop :=
  match m with
  | 1 => ∃ v, (∀ w', Z w' → keeps P o a w' v) ∧ R v w
  | 2 => ∃ v, (∀ w', Below w.heap.size w w' → keeps P o a w' v) ∧ R v w
  | _ => leads P o a w fun v w' => Below w.heap.size w w' ∧ R v w'
def St (P : Program) (ops : Array Oper) (Z : World → Prop) (m : Nat) (o : Oper) (a : Act) (w : World) (R : Value → World → Prop) : Prop :=
  if Region.wanted o (yielded ops a.tmps) then StIn P Z m o a w R else R undef w
theorem St_mono {m : Nat} {o : Oper} {a : Act} {w : World} {R R' : Value → World → Prop} (h : ∀ v w', Below w.heap.size w w' → R v w' → R' v w') (hh : St P ops Z m o a w R) : St P ops Z m o a w R' := by
  unfold St at *
  split
  · rename_i hq
    rw [if_pos hq] at hh
    match m, hh with
    | 1, ⟨v, h1, h2⟩ => exact ⟨v, h1, h _ _ (Below.refl _ _) h2⟩
    | 2, ⟨v, h1, h2⟩ => exact ⟨v, h1, h _ _ (Below.refl _ _) h2⟩
    | 0, hh => exact leads_mono (fun v w' hz => ⟨hz.1, h _ _ hz.1 hz.2⟩) hh
    | n + 3, hh => exact leads_mono (fun v w' hz => ⟨hz.1, h _ _ hz.1 hz.2⟩) hh
  · rename_i hq
    rw [if_neg hq] at hh
    exact h _ _ (Below.refl _ _) hh
theorem St_put {m : Nat} {o : Oper} {a : Act} {w : World} {R : Value → World → Prop} {d : Option Tmp} {u : Value} (hs : ∀ cs b, o.op ≠ .select cs b) (h : ∀ t, d = some t → t ∉ o.looksAt ops) :
    St P ops Z m o (a.put d u) w R ↔ St P ops Z m o a w R := by
  unfold St StIn keeps leads
  rw [wanted_put o a d u h, execOp_put o hs a d u h]
theorem below_trans {w w1 w2 : World} (h : Below w.heap.size w w1) (h' : Below w1.heap.size w1 w2) : Below w.heap.size w w2 := Flo.below_step h h'
theorem St_some {m : Nat} {o : Oper} {a : Act} {w : World} {R : Value → World → Prop} (h : St P ops Z m o a w R) : ∃ v w1, Below w.heap.size w w1 ∧ R v w1 := by
  unfold St at h
  split at h
  · unfold StIn at h
    split at h
    · obtain ⟨v, _, hr⟩ := h; exact ⟨v, w, Below.refl _ _, hr⟩
    · obtain ⟨v, _, hr⟩ := h; exact ⟨v, w, Below.refl _ _, hr⟩
    · obtain ⟨v, w1, hz, hr⟩ := leads_some h; exact ⟨v, w1, hz, hr⟩
  · exact ⟨_, w, Below.refl _ _, h⟩
/-- **TWO OPERATIONS CHANGE PLACES.** -/
theorem St_swap {mi mj : Nat} {oi oj : Oper} {a : Act} {w : World} {R : Value → Value → World → Prop} (hZ : ∀ w w', Z w → Below w.heap.size w w' → Z w') (hm : swaps mi mj = true) (hw : Z w)
    (h : St P ops Z mi oi a w fun v w1 => St P ops Z mj oj a w1 fun u w2 => R v u w2) :
    St P ops Z mj oj a w fun u w1 => St P ops Z mi oi a w1 fun v w2 => R v u w2 := by
  by_cases hi : Region.wanted oi (yielded ops a.tmps) = true
  case neg =>
    have e : ∀ w (R : Value → World → Prop), St P ops Z mi oi a w R = R undef w := fun w R => by unfold St; rw [if_neg hi]
    rw [e] at h
    simp only [e]
    exact h
  by_cases hj : Region.wanted oj (yielded ops a.tmps) = true
  case neg =>
    have e : ∀ w (R : Value → World → Prop), St P ops Z mj oj a w R = R undef w := fun w R => by unfold St; rw [if_neg hj]
    rw [e]
    simp only [e] at h
    exact h
  have ei : ∀ w (R : Value → World → Prop), St P ops Z mi oi a w R = StIn P Z mi oi a w R := fun w R => by unfold St; rw [if_pos hi]
  have ej : ∀ w (R : Value → World → Prop), St P ops Z mj oj a w R = StIn P Z mj oj a w R := fun w R => by unfold St; rw [if_pos hj]
  by_cases h1 : mi = 1
  · subst h1
    simp only [ei, StIn] at h ⊢
    obtain ⟨v, hv, hR⟩ := h
    exact St_mono (fun u w1 _ hr => ⟨v, hv, hr⟩) hR
  by_cases h2 : mj = 1
  · subst h2
    obtain ⟨v0, w0, hb0, hr0⟩ := St_some h
    rw [ej] at hr0
    obtain ⟨u, hu, _⟩ := hr0
    have hz0 := hZ _ _ hw hb0
    rw [ej]
    refine ⟨u, hu, St_mono (fun v w1 hb1 hr => ?_) h⟩
    rw [ej] at hr
    obtain ⟨u', hu', hr'⟩ := hr
    rw [keeps_inj (hu _ hz0) (hu' _ hz0)]
    exact hr'
  have h3 : mi = 2 := by
    match mi, mj, hm, h1, h2 with
    | 2, _, _, _, _ => rfl
    | 0, 0, hm, _, _ => simp [swaps] at hm
    | 0, n + 2, hm, _, _ => simp [swaps] at hm
    | n + 3, 0, hm, _, _ => simp [swaps] at hm
    | n + 3, k + 2, hm, _, _ => simp [swaps] at hm
  subst h3
  simp only [ei, StIn] at h ⊢
  obtain ⟨v, hv, hR⟩ := h
  exact St_mono (fun u w1 hb hr => ⟨v, fun w' hb' => hv w' (below_trans hb hb'), hr⟩) hR
def anyM (P : Program) (md : Region.Mode) (ops : Array Oper) (Z : World → Prop) (ms : List Nat) (Q : Act → World → Prop) : Nat → Array Bool → Act → World → Prop
  | 0, listed, a, w => Region.ready md ops listed = [] ∧ Q a w
  | fuel + 1, listed, a, w => (Region.ready md ops listed = [] → Q a w) ∧
    ∀ i ∈ Region.ready md ops listed, ∀ o, ops[i]? = some o → St P ops Z (modeAt ms i) o a w fun v w' => anyM P md ops Z ms Q fuel (listed.setIfInBounds i true) (a.put o.dst v) w'
theorem any_of_anyM {ms : List Nat} {Q : Exit → Act → World → Prop} (hZ : ∀ w w', Z w → Below w.heap.size w w' → Z w') : ∀ (fuel : Nat) (listed : Array Bool) (a : Act) (w : World), Z w →
    anyM P md ops Z ms (Q .normal) fuel listed a w → wpAny P md ops Q fuel listed a w
  | 0, _, _, _, _, h => h
  | fuel + 1, listed, a, w, hw, h => by
    refine ⟨h.1, fun i hi => ?_⟩
    obtain ⟨_, o, ho, _⟩ := mem_ready.1 hi
    have hst := h.2 i hi o ho
    unfold wpOp
    simp only [ho]
    unfold St at hst
    split
    · rename_i hq
      rw [if_pos hq] at hst
      refine .inl (wp_of_leads ?_)
      unfold StIn at hst
      split at hst
      · obtain ⟨v, hv, hr⟩ := hst; exact leads_of_keeps (hv _ hw) (any_of_anyM hZ fuel _ _ _ hw hr)
      · obtain ⟨v, hv, hr⟩ := hst; exact leads_of_keeps (hv _ (Below.refl _ _)) (any_of_anyM hZ fuel _ _ _ hw hr)
      · exact leads_mono (fun v w' hz => any_of_anyM hZ fuel _ _ _ (hZ _ _ hw hz.1) hz.2) hst
    · rename_i hq
      rw [if_neg hq] at hst
      exact any_of_anyM hZ fuel _ _ _ hw hst
def Fits (md : Region.Mode) (ops : Array Oper) (ms : List Nat) : Prop :=
  ∀ i j, i < j → j < ops.size → swaps (modeAt ms i) (modeAt ms j) = true ∨ Waits md ops i j
theorem getD_flip {l : Array Bool} {j : Nat} (h : l.getD j false = true) : l.getD j true = true := by
  simp only [Array.getD_eq_getD_getElem?] at *
  cases hj : l[j]? with
  | none => rw [hj] at h; cases h
  | some b => rw [hj] at h; simpa using h
theorem anyM_first {ms : List Nat} {Q : Act → World → Prop} {i : Nat} {oi : Oper} (hZ : ∀ w w', Z w → Below w.heap.size w w' → Z w') (hi : ops[i]? = some oi) (hsel : ∀ (j : Nat) (o : Oper) cs b, ops[j]? = some o → o.op ≠ .select cs b) (hfit : Fits md ops ms) :
    ∀ (fuel : Nat) (listed : Array Bool) (a : Act) (w : World), Z w → Shut md ops listed → (∀ j, j < i → listed.getD j false = true) →
      (∀ j oj, ops[j]? = some oj → j ≠ i → listed.getD j true = false → (∀ e ∈ oj.after, Region.binds md e = true → e.on ≠ i) → oi.apart ops oj = true) →
      i ∈ Region.ready md ops listed →
      (St P ops Z (modeAt ms i) oi a w fun v w' => anyM P md ops Z ms Q fuel (listed.setIfInBounds i true) (a.put oi.dst v) w') →
      anyM P md ops Z ms Q (fuel + 1) listed a w := by
  intro fuel
  induction fuel with
  | zero =>
    intro listed a w hw hshut hlow hfree hr H
    refine ⟨fun h => (by rw [h] at hr; cases hr), fun j hj oj hoj => ?_⟩
    by_cases hji : j = i
    · subst hji; rw [hi] at hoj; cases hoj; exact H
    · exfalso
      obtain ⟨v, w', _, h0, _⟩ := St_some H
      have := ready_mono hj hji
      rw [h0] at this
      cases this
  | succ fuel ih =>
    intro listed a w hw hshut hlow hfree hr H
    refine ⟨fun h => (by rw [h] at hr; cases hr), fun j hj oj hoj => ?_⟩
    by_cases hji : j = i
    · subst hji; rw [hi] at hoj; cases hoj; exact H
    obtain ⟨hjun, oj', hoj', hall⟩ := mem_ready.1 hj
    rw [hoj] at hoj'; cases hoj'
    have hiun := (mem_ready.1 hr).1
    have hlt : i < j := by
      rcases Nat.lt_trichotomy j i with h | h | h
      · have := getD_flip (hlow j h)
        rw [hjun] at this
        cases this
      · exact absurd h hji
      · exact h
    have hnot : ∀ e ∈ oj.after, Region.binds md e = true → e.on ≠ i := fun e he hb heq => by
      have h1 := hall e he hb
      rw [heq, getD_mix hiun] at h1; cases h1
    have hap := hfree j oj hoj hji hjun hnot
    obtain ⟨p1, p2, p3⟩ := Oper.apart_spec hap
    have hsw : swaps (modeAt ms i) (modeAt ms j) = true := by
      rcases hfit i j hlt (ready_lt hj) with h | h
      · exact h
      · exact (h.not_ready hshut hiun hj).elim
    have hfree' : ∀ k ok, ops[k]? = some ok → k ≠ i → (listed.setIfInBounds j true).getD k true = false →
        (∀ e ∈ ok.after, Region.binds md e = true → e.on ≠ i) → oi.apart ops ok = true := fun k ok hk hki hun hno => by
      refine hfree k ok hk hki ?_ hno
      by_cases hjk : j = k
      · subst hjk; exact hjun
      · rw [getD_set_ne true hjk] at hun; exact hun
    have hlow' : ∀ k, k < i → (listed.setIfInBounds j true).getD k false = true := fun k hk => getD_set_true (hlow k hk)
    have H2 : St P ops Z (modeAt ms i) oi a w fun v w1 => St P ops Z (modeAt ms j) oj a w1 fun u w2 =>
        anyM P md ops Z ms Q fuel ((listed.setIfInBounds i true).setIfInBounds j true) ((a.put oi.dst v).put oj.dst u) w2 :=
      St_mono (fun v w1 _ h => (St_put (fun cs b => hsel j oj cs b hoj) p1).1 (h.2 j (ready_mono hj hji) oj hoj)) H
    refine St_mono (fun u w1 hb1 h => ?_) (St_swap hZ hsw hw H2)
    refine ih (listed.setIfInBounds j true) (a.put oj.dst u) w1 (hZ _ _ hw hb1) (hshut.set hj) hlow' hfree' (ready_mono hr (Ne.symm hji)) ?_
    refine (St_put (fun cs b => hsel i oi cs b hi) p3).2 (St_mono (fun v w2 _ h' => ?_) h)
    rw [Array.setIfInBounds_comm _ _ hji, ← Act.put_comm a v u p2]
    exact h'
def wpMix (P : Program) (ops : Array Oper) (Z : World → Prop) (Q : Act → World → Prop) : List Oper → List Nat → Act → World → Prop
  | [], _, a, w => Q a w
  | o :: r, ms, a, w => St P ops Z (modeAt ms 0) o a w fun v w' => wpMix P ops Z Q r ms.tail (a.put o.dst v) w'
theorem anyM_lex {ms : List Nat} {Q : Act → World → Prop} (hZ : ∀ w w', Z w → Below w.heap.size w w' → Z w') (hs : Region.noSelect ops = true) (hfit : Fits md ops ms) : ∀ (l : List Oper) (k : Nat) (listed : Array Bool) (a : Act) (w : World), Z w → Shut md ops listed → (∀ j, j < k → listed.getD j false = true) → (∀ j, l[j]? = ops[k + j]?) →
    Region.lexFrom md ops l.length k listed = true → wpMix P ops Z Q l (ms.drop k) a w → anyM P md ops Z ms Q l.length listed a w
  | [], _, _, _, _, _, _, _, _, hB, h => ⟨by simpa [Region.lexFrom] using hB, h⟩
  | o :: l, k, listed, a, w, hw, hshut, hlow, hl, hB, h => by
    have h0 : ops[k]? = some o := by simpa using (hl 0).symm
    simp only [List.length_cons, Region.lexFrom, Bool.and_eq_true] at hB
    obtain ⟨⟨hr, hf⟩, hB'⟩ := hB
    have hr' : k ∈ Region.ready md ops listed := by simpa using hr
    have hmode : modeAt (ms.drop k) 0 = modeAt ms k := by simp [modeAt, List.getD_eq_getElem?_getD, List.getElem?_drop]
    simp only [wpMix, hmode, List.tail_drop] at h
    have hlow' : ∀ j, j < k + 1 → (listed.setIfInBounds k true).getD j false = true := fun j hj => by
      rcases Nat.lt_or_ge j k with h | h
      · exact getD_set_true (hlow j h)
      · obtain rfl : j = k := by omega
        have hk : listed.getD j true = false := (mem_ready.1 hr').1
        have hsz : j < listed.size := by
          rcases Nat.lt_or_ge j listed.size with h | h
          · exact h
          · rw [Array.getD_eq_getD_getElem?, Array.getElem?_eq_none h] at hk; cases hk
        simp [Array.getD_eq_getD_getElem?, hsz]
    refine anyM_first hZ h0 (Region.noSelect_spec hs) hfit l.length listed a w hw hshut hlow (Region.free_spec h0 hf) hr' ?_
    exact St_mono (fun v w1 hb1 h' => anyM_lex hZ hs hfit l (k + 1) _ _ _ (hZ _ _ hw hb1) (hshut.set hr') hlow' (fun j => by have := hl (j + 1); simpa [Nat.add_assoc, Nat.add_comm 1 j] using this) hB' h') h
/-- **A REGION THAT DRAWS ITS ORDER, WALKED ONCE.** -/
theorem wp_region_mix {id : Nat} {Q : Exit → Act → World → Prop} {a : Act} {w : World} {l : List Oper} (Z : World → Prop) (hZ : ∀ w w', Z w → Below w.heap.size w w' → Z w') (ms : List Nat) (hm : P.follows .mixedOrders = true) (hB : mixB .any l ms = true)
    (hz : Z w.drew) (h : wpMix P l.toArray Z (Q .normal) l ms a w.drew) : (Code.region id l.toArray true).wp P Q a w := by
  simp only [mixB, Bool.and_eq_true] at hB
  obtain ⟨⟨hB, hlen⟩, hpairs⟩ := hB
  have hB := lexB_of_Q hB
  simp only [Region.lexB, Bool.and_eq_true] at hB
  obtain ⟨hs, hlex⟩ := hB
  have hmk : ∀ j i, ((masks .any [] l).getD j 0).testBit i = true → Waits .any l.toArray i j :=
    masks_spec l [] (fun j hj => by simp) (fun j i h => by simp at h)
  have hfit : Fits .any l.toArray ms := fun i j hij hj => by
    have hj' : j < l.length := by simpa using hj
    rcases pairsB_spec hpairs j i hj' hij with h1 | h1
    · exact .inl h1
    · exact .inr (hmk _ _ h1)
  refine wp_region_any hm (any_of_anyM (Z := Z) (ms := ms) hZ _ _ _ _ hz ?_)
  have := anyM_lex (P := P) (Z := Z) (md := .any) (ops := l.toArray) (Q := Q .normal) hZ hs hfit l 0 (Array.replicate l.toArray.size false) a w.drew hz (fun j o ho hj => by rw [getD_replicate_mix] at hj; cases hj) (fun j hj => by omega) (fun j => by simp) (by simpa using hlex) (by simpa using h)
  simpa using this
end
section
variable {P : Program} {ops : Array Oper} {Z : World → Prop} {Q : Act → World → Prop} {a : Act} {w : World} {o : Oper} {r : List Oper} {md : Oper → Nat}
theorem au_free (hm : md o = 1) (hw : Region.wanted o (yielded ops a.tmps) = true) (hv : valued o.op = true)
    (h : ∀ K : Act → Prop, (∀ a', wpMix P ops Z Q r (r.map md) a' w → K a') → o.quiet P a Z K) : wpMix P ops Z Q (o :: r) ((o :: r).map md) a w := by
  obtain ⟨v, h1, h2⟩ := h (fun a' => wpMix P ops Z Q r (r.map md) a' w) (fun _ h => h)
  rw [List.map_cons, hm]
  show St P ops Z 1 o a w _
  unfold St
  rw [if_pos hw]
  exact ⟨v, fun w' hz => keeps_of_quiet hv (h1 w' hz), h2⟩
theorem au_skip {j : Nat} {b : Bool} (_hg : o.guard = some (j, b)) (hw : Region.wanted o (yielded ops a.tmps) = false) (h : wpMix P ops Z Q r (r.map md) (a.put o.dst undef) w) : wpMix P ops Z Q (o :: r) ((o :: r).map md) a w := by
  rw [List.map_cons]
  show St P ops Z (md o) o a w _
  unfold St
  rw [if_neg (by rw [hw]; exact Bool.false_ne_true)]
  exact h
theorem au_nil (h : Q a w) : wpMix P ops Z Q [] ([].map md) a w := h
theorem au_move (hm : md o = 0) (hw : Region.wanted o (yielded ops a.tmps) = true)
    (h : ∀ K : Act → World → Prop, (∀ a' w', (a'.defers = a.defers ∧ Below w.heap.size w w' ∧ wpMix P ops Z Q r (r.map md) a' w') → K a' w') → o.wp P a w K (fun _ _ _ => False)) : wpMix P ops Z Q (o :: r) ((o :: r).map md) a w := by
  rw [List.map_cons, hm]
  show St P ops Z 0 o a w _
  unfold St
  rw [if_pos hw]
  exact leads_of_wp (R := fun a' w' => Below w.heap.size w w' ∧ wpMix P ops Z Q r (r.map md) a' w') (h _ fun _ _ h => h)
/-- A conversion that reads what was made. -/
theorem au_convert (hm : md o = 2) (hw : Region.wanted o (yielded ops a.tmps) = true) (src dst : TypeId) (x : Operand) (ho : o.op = .convert src dst x) (vx v : Value) (hx : a.eval x = vx)
    (h1 : ∀ w', Below w.heap.size w w' → (convert src dst vx).run P w' = .ok v w') (h : wpMix P ops Z Q r (r.map md) (a.put o.dst v) w) : wpMix P ops Z Q (o :: r) ((o :: r).map md) a w := by
  rw [List.map_cons, hm]
  show St P ops Z 2 o a w _
  unfold St
  rw [if_pos hw]
  refine ⟨v, fun w' hb => .inl ?_, h⟩
  have := h1 w' hb
  unfold execOp
  simp [ho, hx, this]
end
/-- The modes by the operations' kinds. -/
def hk (o : Oper) : Nat :=
  match o.op with
  | .convert .. => 2
  | op => bif valued op then 1 else 0
section
variable {P : Program} {ops : Array Oper} {S : Nat → Prop} {W : World} {Q : Act → World → Prop} {a : Act} {w : World} {o : Oper} {r : List Oper} {md : Oper → Nat}
theorem wp_region_kept {id : Nat} {Q : Exit → Act → World → Prop} {l : List Oper} (hm : P.follows .mixedOrders = true) (hB : mixB .any l (l.map hk) = true)
    (h : wpMix P l.toArray (InExt (fun b => b < w.heap.size) w) (Q .normal) l (l.map hk) a w.drew) : (Code.region id l.toArray true).wp P Q a w :=
  wp_region_mix (InExt (fun b => b < w.heap.size) w) (fun _ _ hz hb => hz.below (fun _ h => h) hb) _ hm hB (InExt.refl _ w).drew h
theorem hx_free (hm : md o = 1) (hw : Region.wanted o (yielded ops a.tmps) = true) (hv : valued o.op = true)
    (h : ∀ K : Act → Prop, (∀ a', wpMix P ops (InExt S W) Q r (r.map md) a' w → K a') → o.quiet P a (fun w' => ∃ x : Ext S W, w' = x.1) K) : wpMix P ops (InExt S W) Q (o :: r) ((o :: r).map md) a w := by
  refine au_free hm hw hv fun K hK => ?_
  obtain ⟨v, h1, h2⟩ := h K hK
  refine ⟨v, fun w' hz => ?_, h2⟩
  have := h1 w' ⟨⟨w', hz⟩, rfl⟩
  unfold Oper.quietAt at *
  generalize hr : (execOp a.eval o).run P w' = x at *
  cases x with
  | ok n w1 =>
    cases n <;> simp only [Oper.quietUpon] at this ⊢
    case enter f args => exact (not_enter hv hr).elim
    all_goals exact this
  | halt x w1 => simp only [Oper.quietUpon] at this
end
end Go.Flo.Kp
