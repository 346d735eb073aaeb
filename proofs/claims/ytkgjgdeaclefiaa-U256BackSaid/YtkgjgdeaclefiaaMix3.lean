/-
  A region that draws its order, makes memory, calls, and ends in stores, whatever these hit: ONE walk. (Mix2 with two modes more.) No program is named here.
-/
import Derived.Test.YtkgjgdeaclefiaaMix2
import Derived.Test.YtkgjgdeaclefiaaMem
namespace Go.Flo.N
open Go Go.RowKit Go.Flo
section
variable {P : Program} {ops : Array Oper} {md : Region.Mode}

/-- Where the walk stands: the world is not held; it is; the last stores have begun. -/
inductive Ph | soft (fs : Made) | hard (w : World) | done (w : World)
def Ph.J (W : World) : Ph → World → Prop
  | .soft fs, w => Holds W allOf fs w
  | .hard w0, w => w = w0
  | .done w0, w => w = w0
def Ph.held : Ph → Bool
  | .done _ => false
  | _ => true

/-- 0 it moves the world · 1 one value in every world of the class · 3 it makes a block · 4 one value in every world the walk may stand in; it may make memory that nobody sees · 5 it waits for all ahead, and may do what it likes · 6 one value in whatever world. -/
def swaps3 (x y : Nat) : Bool := x == 6 || y == 6 || (x != 5 && y != 5 && swaps2 x y)
theorem swaps3_symm {x y : Nat} (h : swaps3 x y = true) : swaps3 y x = true := by
  unfold swaps3 at *
  simp only [Bool.or_eq_true, Bool.and_eq_true] at *
  rcases h with (h | h) | ⟨⟨h1, h2⟩, h3⟩
  · exact .inl (.inr h)
  · exact .inl (.inl h)
  · exact .inr ⟨⟨h2, h1⟩, swaps2_symm h3⟩
def SuIn (P : Program) (W : World) (Z : World → Prop) (D : Nat → Bool) (j m : Nat) (o : Oper) (a : Act) (ph : Ph) (R : Value → Ph → Prop) : Prop :=
  match m with
  | 1 => ph.held = true ∧ ∃ v, (∀ w', Z w' → keeps P o a w' v) ∧ R v ph
  | 3 => ∃ fs, ph = .soft fs ∧ ∃ z f, makesAt P o a z f ∧ ∀ b, Fresh W fs b → R (f b) (.soft (fs.put j (b, z)))
  | 4 => ∃ fs, ph = .soft fs ∧ ∃ v, givesAt P W D fs o a v ∧ R v ph
  | 5 => ∀ w, ph.J W w → leads P o a w fun v w' => R v (.done w')
  | 6 => ∃ v, (∀ w', keeps P o a w' v) ∧ R v ph
  | _ => ph.held = true ∧ ∀ w, ph.J W w → leads P o a w fun v w' => Z w' ∧ R v (.hard w')
def Su (P : Program) (W : World) (ops : Array Oper) (Z : World → Prop) (D : Nat → Bool) (j m : Nat) (o : Oper) (a : Act) (ph : Ph) (R : Value → Ph → Prop) : Prop :=
  if Region.wanted o (yielded ops a.tmps) then SuIn P W Z D j m o a ph R else R undef ph

variable {W : World} {Z : World → Prop}
/-- What the walk knows. -/
structure Stand (W : World) (Z : World → Prop) (ph : Ph) : Prop where
  some : ∃ w, ph.J W w
  inZ : ∀ w, ph.J W w → ph.held = true → Z w

theorem Stand.hard {w : World} (h : Z w) : Stand W Z (.hard w) := ⟨⟨w, rfl⟩, fun _ e _ => e ▸ h⟩
theorem Stand.soft {fs : Made} (hZ : ∀ w, Below W.heap.size W w → Z w) {w : World} (h : Holds W allOf fs w) : Stand W Z (.soft fs) := ⟨⟨w, h⟩, fun _ h _ => hZ _ h.below⟩
theorem Stand.done (w : World) : Stand W Z (.done w) := ⟨⟨w, rfl⟩, fun _ _ h => by cases h⟩

/-- Nothing is made by k. -/
def Ph.un (ph : Ph) (k : Nat) : Prop := ∀ fs, ph = .soft fs → fs k = none
theorem Ph.un_hard (w : World) (k : Nat) : (Ph.hard w).un k := fun _ e => by cases e
theorem Ph.un_done (w : World) (k : Nat) : (Ph.done w).un k := fun _ e => by cases e
theorem Ph.un_put {fs : Made} {j k : Nat} {x : Nat × Obj} (hk : k ≠ j) (h : (Ph.soft fs).un k) : (Ph.soft (fs.put j x)).un k := fun _ e => by
  cases e
  unfold Made.put
  rw [if_neg hk]
  exact h _ rfl
theorem Su_mono {D : Nat → Bool} {j m : Nat} {o : Oper} {a : Act} {ph : Ph} {R R' : Value → Ph → Prop} (hZ : ∀ w, Below W.heap.size W w → Z w) (hs : Stand W Z ph)
    (h : ∀ v ph', Stand W Z ph' → (∀ k, k ≠ j → ph.un k → ph'.un k) → (m ≠ 5 → ph.held = true → ph'.held = true) → R v ph' → R' v ph') (hh : Su P W ops Z D j m o a ph R) : Su P W ops Z D j m o a ph R' := by
  unfold Su at *
  split
  · rename_i hq
    rw [if_pos hq] at hh
    unfold SuIn at *
    split at hh
    · obtain ⟨h0, v, h1, h2⟩ := hh; exact ⟨h0, v, h1, h _ _ hs (fun _ _ h => h) (fun _ h => h) h2⟩
    · obtain ⟨fs, rfl, z, f, h1, h2⟩ := hh
      refine ⟨fs, rfl, z, f, h1, fun b hb => ?_⟩
      obtain ⟨w, hw⟩ := hs.some
      exact h _ _ ⟨Holds.any hw j z hb, fun w' hw' _ => hZ _ hw'.below⟩ (fun k hk hu => Ph.un_put hk hu) (fun _ _ => rfl) (h2 b hb)
    · obtain ⟨fs, rfl, v, h1, h2⟩ := hh; exact ⟨fs, rfl, v, h1, h _ _ hs (fun _ _ h => h) (fun _ h => h) h2⟩
    · intro w hw
      exact leads_mono (fun v w' hz => h _ _ (Stand.done w') (fun k _ _ => Ph.un_done w' k) (fun h => (h rfl).elim) hz) (hh w hw)
    · obtain ⟨v, h1, h2⟩ := hh; exact ⟨v, h1, h _ _ hs (fun _ _ h => h) (fun _ h => h) h2⟩
    · refine ⟨hh.1, fun w hw => ?_⟩
      exact leads_mono (fun v w' hz => ⟨hz.1, h _ _ (Stand.hard hz.1) (fun k _ _ => Ph.un_hard w' k) (fun _ _ => rfl) hz.2⟩) (hh.2 w hw)
  · rename_i hq
    rw [if_neg hq] at hh
    exact h _ _ hs (fun _ _ h => h) (fun _ h => h) hh
/-- It leads on. -/
theorem SuIn_some {D : Nat → Bool} {j m : Nat} {o : Oper} {a : Act} {ph : Ph} {R : Value → Ph → Prop} (hs : Stand W Z ph) (hh : SuIn P W Z D j m o a ph R) : ∃ v ph', R v ph' := by
  obtain ⟨w, hw⟩ := hs.some
  unfold SuIn at hh
  split at hh
  · obtain ⟨_, v, _, h2⟩ := hh; exact ⟨_, _, h2⟩
  · obtain ⟨fs, rfl, z, f, _, h2⟩ := hh; exact ⟨_, _, h2 _ (Holds.fresh hw)⟩
  · obtain ⟨fs, rfl, v, _, h2⟩ := hh; exact ⟨_, _, h2⟩
  · obtain ⟨v, w', h⟩ := leads_some (hh w hw); exact ⟨_, _, h⟩
  · obtain ⟨v, _, h2⟩ := hh; exact ⟨_, _, h2⟩
  · obtain ⟨v, w', _, h⟩ := leads_some (hh.2 w hw); exact ⟨_, _, h⟩
theorem SuIn_held {D : Nat → Bool} {j m : Nat} {o : Oper} {a : Act} {ph : Ph} {R : Value → Ph → Prop} (h5 : m ≠ 5) (h6 : m ≠ 6) (hh : SuIn P W Z D j m o a ph R) : ph.held = true := by
  unfold SuIn at hh
  split at hh
  · exact hh.1
  · obtain ⟨fs, rfl, _⟩ := hh; rfl
  · obtain ⟨fs, rfl, _⟩ := hh; rfl
  · exact (h5 rfl).elim
  · exact (h6 rfl).elim
  · exact hh.1

theorem Su_put {D : Nat → Bool} {j m : Nat} {o : Oper} {a : Act} {ph : Ph} {R : Value → Ph → Prop} {d : Option Tmp} {u : Value} (hs : ∀ cs b, o.op ≠ .select cs b) (h : ∀ t, d = some t → t ∉ o.looksAt ops) :
    Su P W ops Z D j m o (a.put d u) ph R ↔ Su P W ops Z D j m o a ph R := by
  unfold Su SuIn makesAt givesAt gives keeps leads
  rw [wanted_put o a d u h, execOp_put o hs a d u h]


/-- **TWO OPERATIONS CHANGE PLACES.** -/
theorem Su_swap {Di Dj : Nat → Bool} {i j mi mj : Nat} {oi oj : Oper} {a : Act} {ph : Ph} {R : Value → Value → Ph → Prop} (hZ : ∀ w, Below W.heap.size W w → Z w) (hij : i ≠ j) (hDi : Di j = false) (hDj : Dj i = false) (hm3 : swaps3 mi mj = true) (hs : Stand W Z ph)
    (hni : ph.un i) (hnj : ph.un j)
    (h : Su P W ops Z Di i mi oi a ph fun v ph1 => Su P W ops Z Dj j mj oj a ph1 fun u ph2 => R v u ph2) :
    Su P W ops Z Dj j mj oj a ph fun u ph1 => Su P W ops Z Di i mi oi a ph1 fun v ph2 => R v u ph2 := by
  by_cases hi : Region.wanted oi (yielded ops a.tmps) = true
  case neg =>
    have e : ∀ ph (R : Value → Ph → Prop), Su P W ops Z Di i mi oi a ph R = R undef ph := fun w R => by unfold Su; rw [if_neg hi]
    rw [e] at h
    simp only [e]
    exact h
  by_cases hj : Region.wanted oj (yielded ops a.tmps) = true
  case neg =>
    have e : ∀ ph (R : Value → Ph → Prop), Su P W ops Z Dj j mj oj a ph R = R undef ph := fun w R => by unfold Su; rw [if_neg hj]
    rw [e]
    simp only [e] at h
    exact h
  have ei : ∀ ph (R : Value → Ph → Prop), Su P W ops Z Di i mi oi a ph R = SuIn P W Z Di i mi oi a ph R := fun w R => by unfold Su; rw [if_pos hi]
  have ej : ∀ ph (R : Value → Ph → Prop), Su P W ops Z Dj j mj oj a ph R = SuIn P W Z Dj j mj oj a ph R := fun w R => by unfold Su; rw [if_pos hj]
  obtain ⟨w0, hw0⟩ := hs.some
  by_cases h16 : mi = 6
  · subst h16
    simp only [ei, SuIn] at h ⊢
    obtain ⟨v, hv, hR⟩ := h
    exact Su_mono hZ hs (fun u ph1 _ _ _ hr => ⟨v, hv, hr⟩) hR
  by_cases h26 : mj = 6
  · subst h26
    simp only [ej] at h ⊢
    have hex : ∃ u, (∀ w', keeps P oj a w' u) := by
      rw [ei] at h
      obtain ⟨_, _, u, hu, _⟩ := SuIn_some hs h
      exact ⟨u, hu⟩
    obtain ⟨u, hu⟩ := hex
    refine ⟨u, hu, Su_mono hZ hs (fun v ph1 _ _ _ hr => ?_) h⟩
    obtain ⟨u', hu', hr'⟩ := hr
    rw [keeps_inj (hu W) (hu' W)]
    exact hr'
  obtain ⟨h15, h25, hm⟩ : mi ≠ 5 ∧ mj ≠ 5 ∧ swaps2 mi mj = true := by
    unfold swaps3 at hm3
    simp only [Bool.or_eq_true, Bool.and_eq_true, beq_iff_eq, bne_iff_ne] at hm3
    rcases hm3 with (h | h) | h
    · exact (h16 h).elim
    · exact (h26 h).elim
    · exact ⟨h.1.1, h.1.2, h.2⟩
  have hheld : ph.held = true := by
    rw [ei] at h
    exact SuIn_held h15 h16 h
  by_cases h1 : mi = 1
  · subst h1
    simp only [ei, SuIn] at h ⊢
    obtain ⟨h0, v, hv, hR⟩ := h
    exact Su_mono hZ hs (fun u ph1 _ _ hk hr => ⟨hk h25 h0, v, hv, hr⟩) hR
  by_cases h2 : mj = 1
  · subst h2
    simp only [ej] at h ⊢
    have hex : ∃ v ph1, ∃ u, (∀ w', Z w' → keeps P oj a w' u) ∧ R v u ph1 := by
      rw [ei] at h
      obtain ⟨v, ph1, _, u, hu, hr⟩ := SuIn_some hs h
      exact ⟨v, ph1, u, hu, hr⟩
    obtain ⟨_, ph1, u, hu, _⟩ := hex
    have hz0 := hs.inZ _ hw0 hheld
    refine ⟨hheld, u, hu, Su_mono hZ hs (fun v ph1 _ _ _ hr => ?_) h⟩
    obtain ⟨_, u', hu', hr'⟩ := hr
    rw [keeps_inj (hu _ hz0) (hu' _ hz0)]
    exact hr'
  simp only [ei, ej] at h ⊢
  have h3 : (mi = 3 ∨ mi = 4) ∧ (mj = 3 ∨ mj = 4) := by
    match mi, mj, hm, h1, h2 with
    | 3, 3, _, _, _ => exact ⟨.inl rfl, .inl rfl⟩
    | 3, 4, _, _, _ => exact ⟨.inl rfl, .inr rfl⟩
    | 4, 3, _, _, _ => exact ⟨.inr rfl, .inl rfl⟩
    | 4, 4, _, _, _ => exact ⟨.inr rfl, .inr rfl⟩
    | 0, n, hm, _, h2 => match n, hm, h2 with | 0, hm, _ => simp [swaps2] at hm | n + 2, hm, _ => simp [swaps2] at hm
    | 2, n, hm, _, h2 => match n, hm, h2 with | 0, hm, _ => simp [swaps2] at hm | n + 2, hm, _ => simp [swaps2] at hm
    | 3, 0, hm, _, _ => simp [swaps2] at hm
    | 3, 2, hm, _, _ => simp [swaps2] at hm
    | 3, n + 5, hm, _, _ => simp [swaps2] at hm
    | 4, 0, hm, _, _ => simp [swaps2] at hm
    | 4, 2, hm, _, _ => simp [swaps2] at hm
    | 4, n + 5, hm, _, _ => simp [swaps2] at hm
    | k + 5, n, hm, _, h2 => match n, hm, h2 with | 0, hm, _ => simp [swaps2] at hm | n + 2, hm, _ => simp [swaps2] at hm
  obtain ⟨rfl | rfl, rfl | rfl⟩ := h3
  · -- makers
    simp only [SuIn] at h ⊢
    obtain ⟨fs, rfl, z, f, hM, h⟩ := h
    have n1 := hni fs rfl
    have n2 := hnj fs rfl
    have hb0 := Holds.fresh hw0
    obtain ⟨_, e, z', f', hM', _⟩ := h _ hb0
    cases e
    refine ⟨fs, rfl, z', f', hM', fun b' hb' => ⟨_, rfl, z, f, hM, fun b hb => ?_⟩⟩
    obtain ⟨g1, g2⟩ := hb.of_put n2
    obtain ⟨_, e, z2, f2, hM2, hR⟩ := h b g1
    cases e
    obtain ⟨rfl, rfl⟩ := makes_inj hM' hM2 W
    have := hR b' (hb'.put (Ne.symm g2))
    rw [Made.put_comm _ _ _ hij] at this
    exact this
  · -- maker, then value
    simp only [SuIn] at h ⊢
    obtain ⟨fs, rfl, z, f, hM, h⟩ := h
    have hb0 := Holds.fresh hw0
    obtain ⟨_, e, v, hv, _⟩ := h _ hb0
    cases e
    have hv' : givesAt P W Dj fs oj a v := fun w hw => hv w ((Holds.put hDj).2 hw)
    refine ⟨fs, rfl, v, hv', fs, rfl, z, f, hM, fun b hb => ?_⟩
    obtain ⟨_, e, v2, hv2, hR⟩ := h b hb
    cases e
    have := gives_inj (hv' w0 (Holds.less hw0)) (hv2 w0 ((Holds.put hDj).2 (Holds.less hw0)))
    rw [this]
    exact hR
  · -- value, then maker
    simp only [SuIn] at h ⊢
    obtain ⟨fs, rfl, v, hv, fs', e, z, f, hM, h⟩ := h
    cases e
    exact ⟨fs, rfl, z, f, hM, fun b hb => ⟨_, rfl, v, fun w hw => hv w ((Holds.put hDi).1 hw), h b hb⟩⟩
  · simp only [SuIn] at h ⊢
    obtain ⟨fs, rfl, v, hv, fs', e, u, hu, h⟩ := h
    cases e
    exact ⟨fs, rfl, u, hu, fs, rfl, v, hv, h⟩

/-! ### Whatever order -/

def anyS (P : Program) (W : World) (md : Region.Mode) (ops : Array Oper) (Z : World → Prop) (mk ms : List Nat) (Q : Act → World → Prop) : Nat → Array Bool → Act → Ph → Prop
  | 0, listed, a, ph => Region.ready md ops listed = [] ∧ ∀ w, ph.J W w → Q a w
  | fuel + 1, listed, a, ph => (Region.ready md ops listed = [] → ∀ w, ph.J W w → Q a w) ∧
    ∀ i ∈ Region.ready md ops listed, ∀ o, ops[i]? = some o → Su P W ops Z (fun k => (mk.getD i 0).testBit k) i (modeAt ms i) o a ph fun v ph' => anyS P W md ops Z mk ms Q fuel (listed.setIfInBounds i true) (a.put o.dst v) ph'

theorem any_of_anyS {mk ms : List Nat} {Q : Exit → Act → World → Prop} (hZ : ∀ w, Below W.heap.size W w → Z w) : ∀ (fuel : Nat) (listed : Array Bool) (a : Act) (ph : Ph) (w : World), ph.J W w → Stand W Z ph →
    anyS P W md ops Z mk ms (Q .normal) fuel listed a ph → wpAny P md ops Q fuel listed a w
  | 0, _, _, _, _, hj, _, h => ⟨h.1, h.2 _ hj⟩
  | fuel + 1, listed, a, ph, w, hj, hs, h => by
    refine ⟨fun hr => h.1 hr w hj, fun i hi => ?_⟩
    obtain ⟨_, o, ho, _⟩ := mem_ready.1 hi
    have hst := h.2 i hi o ho
    unfold wpOp
    simp only [ho]
    unfold Su at hst
    split
    · rename_i hq
      rw [if_pos hq] at hst
      refine .inl (wp_of_leads ?_)
      unfold SuIn at hst
      split at hst
      · obtain ⟨h0, v, hv, hr⟩ := hst; exact leads_of_keeps (hv _ (hs.inZ _ hj h0)) (any_of_anyS hZ fuel _ _ _ _ hj hs hr)
      · obtain ⟨fs, rfl, z, f, hM, hr⟩ := hst
        have hb := Holds.fresh hj
        unfold leads
        rw [hM w]
        exact any_of_anyS hZ fuel _ _ (.soft (fs.put i (w.heap.size, z))) _ (Holds.alloc hj i z) ⟨⟨w.alloc z, Holds.alloc hj i z⟩, fun w' hw' _ => hZ _ hw'.below⟩ (hr _ hb)
      · obtain ⟨fs, rfl, v, hv, hr⟩ := hst
        exact leads_of_gives (hv w (Holds.less hj)) fun w' hb => any_of_anyS hZ fuel _ _ (.soft fs) _ (Holds.step hj hb) hs hr
      · exact leads_mono (fun v w' hz => any_of_anyS hZ fuel _ _ (.done w') _ rfl (Stand.done w') hz) (hst w hj)
      · obtain ⟨v, hv, hr⟩ := hst; exact leads_of_keeps (hv w) (any_of_anyS hZ fuel _ _ _ _ hj hs hr)
      · exact leads_mono (fun v w' hz => any_of_anyS hZ fuel _ _ (.hard w') _ rfl (Stand.hard hz.1) hz.2) (hst.2 w hj)
    · rename_i hq
      rw [if_neg hq] at hst
      exact any_of_anyS hZ fuel _ _ _ _ hj hs hst

def Fits2 (md : Region.Mode) (ops : Array Oper) (ms : List Nat) : Prop :=
  ∀ i j, i < ops.size → j < ops.size → i ≠ j → swaps3 (modeAt ms i) (modeAt ms j) = true ∨ Waits md ops i j ∨ Waits md ops j i

theorem anyS_first {mk ms : List Nat} {Q : Act → World → Prop} {i : Nat} {oi : Oper} (hZ : ∀ w, Below W.heap.size W w → Z w) (hi : ops[i]? = some oi) (hsel : ∀ (j : Nat) (o : Oper) cs b, ops[j]? = some o → o.op ≠ .select cs b) (hfit : Fits2 md ops ms)
    (hmk : ∀ j k, (mk.getD j 0).testBit k = true → Waits md ops k j) :
    ∀ (fuel : Nat) (listed : Array Bool) (a : Act) (ph : Ph), Stand W Z ph → (∀ k, listed.getD k true = false → ph.un k) → Shut md ops listed →
      (∀ j oj, ops[j]? = some oj → j ≠ i → listed.getD j true = false → (∀ e ∈ oj.after, Region.binds md e = true → e.on ≠ i) → oi.apart ops oj = true) →
      i ∈ Region.ready md ops listed →
      (Su P W ops Z (fun k => (mk.getD i 0).testBit k) i (modeAt ms i) oi a ph fun v ph' => anyS P W md ops Z mk ms Q fuel (listed.setIfInBounds i true) (a.put oi.dst v) ph') →
      anyS P W md ops Z mk ms Q (fuel + 1) listed a ph := by
  intro fuel
  induction fuel with
  | zero =>
    intro listed a ph hs hun hshut hfree hr H
    refine ⟨fun h => (by rw [h] at hr; cases hr), fun j hj oj hoj => ?_⟩
    by_cases hji : j = i
    · subst hji; rw [hi] at hoj; cases hoj; exact H
    · exfalso
      have : ∃ v ph', anyS P W md ops Z mk ms Q 0 (listed.setIfInBounds i true) (a.put oi.dst v) ph' := by
        obtain ⟨w0, hw0⟩ := hs.some
        unfold Su at H
        split at H
        · exact SuIn_some hs H
        · exact ⟨_, _, H⟩
      obtain ⟨v, ph', h0, _⟩ := this
      have := ready_mono hj hji
      rw [h0] at this
      cases this
  | succ fuel ih =>
    intro listed a ph hs hun hshut hfree hr H
    refine ⟨fun h => (by rw [h] at hr; cases hr), fun j hj oj hoj => ?_⟩
    by_cases hji : j = i
    · subst hji; rw [hi] at hoj; cases hoj; exact H
    obtain ⟨hjun, oj', hoj', hall⟩ := mem_ready.1 hj
    rw [hoj] at hoj'; cases hoj'
    have hiun := (mem_ready.1 hr).1
    have hnot : ∀ e ∈ oj.after, Region.binds md e = true → e.on ≠ i := fun e he hb heq => by
      have h1 := hall e he hb
      rw [heq, getD_mix hiun] at h1; cases h1
    have hap := hfree j oj hoj hji hjun hnot
    obtain ⟨p1, p2, p3⟩ := Oper.apart_spec hap
    have hwij : ¬ Waits md ops i j := fun h => h.not_ready hshut hiun hj
    have hwji : ¬ Waits md ops j i := fun h => h.not_ready hshut hjun hr
    have hsw : swaps3 (modeAt ms i) (modeAt ms j) = true := by
      rcases hfit i j (ready_lt hr) (ready_lt hj) (Ne.symm hji) with h | h | h
      · exact h
      · exact (hwij h).elim
      · exact (hwji h).elim
    have hfree' : ∀ k ok, ops[k]? = some ok → k ≠ i → (listed.setIfInBounds j true).getD k true = false →
        (∀ e ∈ ok.after, Region.binds md e = true → e.on ≠ i) → oi.apart ops ok = true := fun k ok hk hki hun hno => by
      refine hfree k ok hk hki ?_ hno
      by_cases hjk : j = k
      · subst hjk; exact hjun
      · rw [getD_set_ne true hjk] at hun; exact hun
    have H2 : Su P W ops Z (fun k => (mk.getD i 0).testBit k) i (modeAt ms i) oi a ph fun v ph1 => Su P W ops Z (fun k => (mk.getD j 0).testBit k) j (modeAt ms j) oj a ph1 fun u ph2 =>
        anyS P W md ops Z mk ms Q fuel ((listed.setIfInBounds i true).setIfInBounds j true) ((a.put oi.dst v).put oj.dst u) ph2 :=
      Su_mono hZ hs (fun v ph1 _ _ _ h => (Su_put (fun cs b => hsel j oj cs b hoj) p1).1 (h.2 j (ready_mono hj hji) oj hoj)) H
    have hD : ∀ x y, ¬ Waits md ops x y → (mk.getD y 0).testBit x = false := fun x y h => by
      cases hb : (mk.getD y 0).testBit x with
      | false => rfl
      | true => exact (h (hmk _ _ hb)).elim
    refine Su_mono hZ hs (fun u ph1 hs1 hk1 _ h => ?_) (Su_swap hZ (Ne.symm hji) (hD j i hwji) (hD i j hwij) hsw hs (hun i hiun) (hun j hjun) H2)
    refine ih (listed.setIfInBounds j true) (a.put oj.dst u) ph1 hs1 (fun k hk => ?_) (hshut.set hj) hfree' (ready_mono hr (Ne.symm hji)) ?_
    · by_cases hjk : j = k
      · subst hjk
        rw [Array.getD_eq_getD_getElem?] at hk hjun
        rcases Nat.lt_or_ge j listed.size with h' | h'
        · simp [h'] at hk
        · simp [h'] at hjun
      · rw [getD_set_ne true hjk] at hk
        exact hk1 k (Ne.symm hjk) (hun k hk)
    refine (Su_put (fun cs b => hsel i oi cs b hi) p3).2 (Su_mono hZ hs1 (fun v ph2 _ _ _ h' => ?_) h)
    rw [Array.setIfInBounds_comm _ _ hji, ← Act.put_comm a v u p2]
    exact h'

/-! ### The walk in the order of the text -/

def wpSoft (P : Program) (W : World) (ops : Array Oper) (Z : World → Prop) (mk : List Nat) (Q : Act → World → Prop) : List Oper → List Nat → Nat → Act → Ph → Prop
  | [], _, _, a, ph => ∀ w, ph.J W w → Q a w
  | o :: r, ms, k, a, ph => Su P W ops Z (fun x => (mk.getD k 0).testBit x) k (modeAt ms 0) o a ph fun v ph' => wpSoft P W ops Z mk Q r ms.tail (k + 1) (a.put o.dst v) ph'

theorem anyS_lex {mk ms : List Nat} {Q : Act → World → Prop} (hZ : ∀ w, Below W.heap.size W w → Z w) (hs : Region.noSelect ops = true) (hfit : Fits2 md ops ms)
    (hmk : ∀ j k, (mk.getD j 0).testBit k = true → Waits md ops k j) : ∀ (l : List Oper) (k : Nat) (listed : Array Bool) (a : Act) (ph : Ph), Stand W Z ph → (∀ k, listed.getD k true = false → ph.un k) → Shut md ops listed → (∀ j, l[j]? = ops[k + j]?) →
    Region.lexFrom md ops l.length k listed = true → wpSoft P W ops Z mk Q l (ms.drop k) k a ph → anyS P W md ops Z mk ms Q l.length listed a ph
  | [], _, _, _, _, _, _, _, _, hB, h => ⟨by simpa [Region.lexFrom] using hB, h⟩
  | o :: l, k, listed, a, ph, hst, hun, hshut, hl, hB, h => by
    have h0 : ops[k]? = some o := by simpa using (hl 0).symm
    simp only [List.length_cons, Region.lexFrom, Bool.and_eq_true] at hB
    obtain ⟨⟨hr, hf⟩, hB'⟩ := hB
    have hr' : k ∈ Region.ready md ops listed := by simpa using hr
    have hmode : modeAt (ms.drop k) 0 = modeAt ms k := by simp [modeAt, List.getD_eq_getElem?_getD, List.getElem?_drop]
    simp only [wpSoft, hmode, List.tail_drop] at h
    refine anyS_first hZ h0 (Region.noSelect_spec hs) hfit hmk l.length listed a ph hst hun hshut (Region.free_spec h0 hf) hr' ?_
    refine Su_mono hZ hst (fun v ph1 hs1 hk1 _ h' => anyS_lex hZ hs hfit hmk l (k + 1) _ _ _ hs1 (fun j hj => ?_) (hshut.set hr') (fun j => by have := hl (j + 1); simpa [Nat.add_assoc, Nat.add_comm 1 j] using this) hB' h') h
    by_cases hjk : k = j
    · subst hjk
      have hjun := (mem_ready.1 hr').1
      rcases Nat.lt_or_ge k listed.size with h' | h'
      · simp [h'] at hj
      · simp [h'] at hjun
    · rw [getD_set_ne true hjk] at hj
      exact hk1 j (Ne.symm hjk) (hun j hj)

def pairsS (mk : List Nat) (ms : List Nat) : Nat → Bool
  | 0 => true
  | j + 1 => (List.range j).all (fun i => swaps3 (modeAt ms i) (modeAt ms j) || (mk.getD j 0).testBit i) && pairsS mk ms j
def softB (md : Region.Mode) (l : List Oper) (ms : List Nat) : Bool :=
  lexQ md l && (ms.length == l.length) && pairsS (masks md [] l) ms l.length && (l.zip ms).all fun x => x.2 != 1 || valued x.1.op
theorem pairsS_spec {mk ms : List Nat} : ∀ {n : Nat}, pairsS mk ms n = true → ∀ j i, j < n → i < j → swaps3 (modeAt ms i) (modeAt ms j) = true ∨ (mk.getD j 0).testBit i = true
  | 0, _, j, i, hj, _ => by omega
  | n + 1, h, j, i, hj, hi => by
    simp only [pairsS, Bool.and_eq_true, List.all_eq_true, List.mem_range, Bool.or_eq_true] at h
    by_cases hjn : j = n
    · subst hjn; exact h.1 i hi
    · exact pairsS_spec h.2 j i (by omega) hi
/-- **A REGION THAT DRAWS ITS ORDER AND MAKES MEMORY, WALKED ONCE.** -/
theorem wp_region_soft {id : Nat} {Q : Exit → Act → World → Prop} {a : Act} {w : World} {l : List Oper} (S : Nat → Prop) (ms : List Nat) (hm : P.follows .mixedOrders = true) (hB : softB .any l ms = true)
    (hS : ∀ b, S b → b < w.heap.size) (h : wpSoft P w l.toArray (InExt S w) (masks .any [] l) (Q .normal) l ms 0 a (.soft noMade)) : (Code.region id l.toArray true).wp P Q a w := by
  simp only [softB, Bool.and_eq_true] at hB
  obtain ⟨⟨⟨hB, hlen⟩, hpairs⟩, _⟩ := hB
  have hB := lexB_of_Q hB
  simp only [Region.lexB, Bool.and_eq_true] at hB
  obtain ⟨hs, hlex⟩ := hB
  have hmk : ∀ j i, ((masks .any [] l).getD j 0).testBit i = true → Waits .any l.toArray i j :=
    masks_spec l [] (fun j hj => by simp) (fun j i h => by simp at h)
  have hfit : Fits2 .any l.toArray ms := fun i j hi hj hij => by
    have hi' : i < l.length := by simpa using hi
    have hj' : j < l.length := by simpa using hj
    rcases Nat.lt_or_gt_of_ne hij with h' | h'
    · rcases pairsS_spec hpairs j i hj' h' with h1 | h1
      · exact .inl h1
      · exact .inr (.inl (hmk _ _ h1))
    · rcases pairsS_spec hpairs i j hi' h' with h1 | h1
      · exact .inl (swaps3_symm h1)
      · exact .inr (.inr (hmk _ _ h1))
  have hZ : ∀ w', Below w.heap.size w w' → InExt S w w' := fun w' hb => (InExt.refl S w).below hS hb
  have hJ : Holds w allOf noMade w.drew := ⟨(Below.refl _ _).drew, fun i b z _ he => by cases he⟩
  refine wp_region_any hm (any_of_anyS (W := w) (Z := InExt S w) (mk := masks .any [] l) (ms := ms) hZ _ _ _ (.soft noMade) _ hJ (Stand.soft hZ hJ) ?_)
  have := anyS_lex (P := P) (W := w) (Z := InExt S w) (md := .any) (ops := l.toArray) (Q := Q .normal) hZ hs hfit hmk l 0 (Array.replicate l.toArray.size false) a (.soft noMade) (Stand.soft hZ hJ) (fun k _ fs e => by cases e; rfl) (fun j o ho hj => by rw [getD_replicate_mix] at hj; cases hj) (fun j => by simp) (by simpa using hlex) (by simpa using h)
  simpa using this

/-- The modes by the operations' kinds. -/
def sd (o : Oper) : Nat :=
  match o.op with
  | .alloc .. | .buildSlice .. => 3
  | .call { callee := .value .., .. } => 4
  | .move .. | .assign .. => 6
  | op => bif valued op then 1 else 5

theorem wp_made {id : Nat} {Q : Exit → Act → World → Prop} {a : Act} {w : World} {l : List Oper} (hm : P.follows .mixedOrders = true) (hB : softB .any l (l.map sd) = true)
    (h : wpSoft P w l.toArray (InExt (fun b => b < w.heap.size) w) (masks .any [] l) (Q .normal) l (l.map sd) 0 a (.soft noMade)) : (Code.region id l.toArray true).wp P Q a w :=
  wp_region_soft (fun b => b < w.heap.size) _ hm hB (fun _ h => h) h
end
section
variable {P : Program} {ops : Array Oper} {S : Nat → Prop} {W : World} {mk : List Nat} {Q : Act → World → Prop} {a : Act} {ph : Ph} {fs : Made} {o : Oper} {r : List Oper} {md : Oper → Nat} {k : Nat}
theorem sx_nil {ms : List Nat} (h : ∀ w, Holds W allOf fs w → Q a w) : wpSoft P W ops (InExt S W) mk Q [] ms k a (.soft fs) := h
theorem sx_end {ms : List Nat} {w : World} (h : Q a w) : wpSoft P W ops (InExt S W) mk Q [] ms k a (.done w) := fun w' e => by
  have e : w' = w := e
  rw [e]
  exact h
theorem sx_free (hm : md o = 1) (hw : Region.wanted o (yielded ops a.tmps) = true) (hv : valued o.op = true) (hh : ph.held = true)
    (h : ∀ K : Act → Prop, (∀ a', wpSoft P W ops (InExt S W) mk Q r (r.map md) (k + 1) a' ph → K a') → o.quiet P a (fun w' => ∃ x : Ext S W, w' = x.1) K) : wpSoft P W ops (InExt S W) mk Q (o :: r) ((o :: r).map md) k a ph := by
  rw [List.map_cons, hm]
  show Su P W ops _ _ k 1 o a ph _
  unfold Su
  rw [if_pos hw]
  obtain ⟨v, h1, h2⟩ := h (fun a' => wpSoft P W ops (InExt S W) mk Q r (r.map md) (k + 1) a' ph) (fun _ h => h)
  exact ⟨hh, v, fun w' hz => keeps_of_quiet hv (h1 w' ⟨⟨w', hz⟩, rfl⟩), h2⟩
/-- A world with nothing in it. -/
def bare : World := { (default : World) with heap := #[] }
theorem inExt_bare (w : World) : InExt (fun _ => False) bare w := ⟨fun _ h => h.elim, Nat.zero_le _⟩
theorem sx_pure (hm : md o = 6) (hw : Region.wanted o (yielded ops a.tmps) = true) (hv : valued o.op = true)
    (h : ∀ K : Act → Prop, (∀ a', wpSoft P W ops (InExt S W) mk Q r (r.map md) (k + 1) a' ph → K a') → o.quiet P a (fun w' => ∃ x : Ext (fun _ => False) bare, w' = x.1) K) : wpSoft P W ops (InExt S W) mk Q (o :: r) ((o :: r).map md) k a ph := by
  rw [List.map_cons, hm]
  show Su P W ops _ _ k 6 o a ph _
  unfold Su
  rw [if_pos hw]
  obtain ⟨v, h1, h2⟩ := h (fun a' => wpSoft P W ops (InExt S W) mk Q r (r.map md) (k + 1) a' ph) (fun _ h => h)
  exact ⟨v, fun w' => keeps_of_quiet hv (h1 w' ⟨⟨w', inExt_bare w'⟩, rfl⟩), h2⟩
theorem sx_skip {j : Nat} {b : Bool} (_hg : o.guard = some (j, b)) (hw : Region.wanted o (yielded ops a.tmps) = false) (h : wpSoft P W ops (InExt S W) mk Q r (r.map md) (k + 1) (a.put o.dst undef) ph) : wpSoft P W ops (InExt S W) mk Q (o :: r) ((o :: r).map md) k a ph := by
  rw [List.map_cons]
  show Su P W ops _ _ k (md o) o a ph _
  unfold Su
  rw [if_neg (by rw [hw]; exact Bool.false_ne_true)]
  exact h
theorem sx_alloc (hm : md o = 3) (hw : Region.wanted o (yielded ops a.tmps) = true) {cs : Array Value} {t : TypeId} {f : Nat → Value} (h1 : ∀ w : World, (execOp a.eval o).run P w = .ok (.value (f w.heap.size)) (w.alloc (.cells cs t (0, 0))))
    (h2 : ∀ b, W.heap.size ≤ b → Fresh W fs b → wpSoft P W ops (InExt S W) mk Q r (r.map md) (k + 1) (a.put o.dst (f b)) (.soft (fs.put k (b, .cells cs t (0, 0))))) : wpSoft P W ops (InExt S W) mk Q (o :: r) ((o :: r).map md) k a (.soft fs) := by
  rw [List.map_cons, hm]
  show Su P W ops _ _ k 3 o a (.soft fs) _
  unfold Su
  rw [if_pos hw]
  exact ⟨fs, rfl, .cells cs t (0, 0), f, h1, fun b hb => h2 b hb.new hb⟩
theorem sx_give (hm : md o = 4) (hw : Region.wanted o (yielded ops a.tmps) = true) (v : Value)
    (h1 : ∀ w, Below W.heap.size W w → Holds W (fun x => (mk.getD k 0).testBit x) fs w → gives P o a w v)
    (h2 : wpSoft P W ops (InExt S W) mk Q r (r.map md) (k + 1) (a.put o.dst v) (.soft fs)) : wpSoft P W ops (InExt S W) mk Q (o :: r) ((o :: r).map md) k a (.soft fs) := by
  rw [List.map_cons, hm]
  show Su P W ops _ _ k 4 o a (.soft fs) _
  unfold Su
  rw [if_pos hw]
  exact ⟨fs, rfl, v, fun w hw => h1 w hw.below hw, h2⟩
theorem sx_last (hm : md o = 5) (hw : Region.wanted o (yielded ops a.tmps) = true)
    (h : ∀ w, ph.J W w → ∀ K : Act → World → Prop, (∀ a' w', (a'.defers = a.defers ∧ wpSoft P W ops (InExt S W) mk Q r (r.map md) (k + 1) a' (.done w')) → K a' w') → o.wp P a w K (fun _ _ _ => False)) : wpSoft P W ops (InExt S W) mk Q (o :: r) ((o :: r).map md) k a ph := by
  rw [List.map_cons, hm]
  show Su P W ops _ _ k 5 o a ph _
  unfold Su
  rw [if_pos hw]
  intro w hj
  exact leads_of_wp (R := fun a' w' => wpSoft P W ops (InExt S W) mk Q r (r.map md) (k + 1) a' (.done w')) (h w hj _ fun _ _ h => h)
/-- Two blocks that were made. -/
theorem got2 {w0 w w' : World} {l : List It} {b c : Nat} {cs ds : Array Value} {t u : TypeId} (h : Mem w0 w l) (hb : Below w.heap.size w w') (hx : w.heap.size ≤ b ∧ w'.heap[b]? = some (.cells cs t (0, 0))) (hy : w.heap.size ≤ c ∧ w'.heap[c]? = some (.cells ds u (0, 0)))
    (hbc : b ≠ c) : Mem w0 w' (.c c ds u :: .c b cs t :: l) := by
  have h1 := h.got (x := .c b cs t) hb hx
  have h2 := h.got (x := .c c ds u) hb hy
  exact ⟨h1.below, h2.items.1, ⟨fun d hd e => hbc (by cases hd; cases e; rfl), h2.items.2.1⟩, h1.items⟩
end
attribute [irreducible] wpSoft
end Go.Flo.N
