/-
  A region that draws its order, in which memory is made beside calls: ahead of the first operation that moves the world, the walk holds no world but a row of what was made; each fresh block is any fresh block. No program is named here.
-/
import Derived.Test.YtkgjgdeaclefiaaMix
import Derived.Test.YtkgjgdeaclefiaaLocs
namespace Go.Flo
open Go Go.RowKit
section
variable {P : Program} {ops : Array Oper} {md : Region.Mode}

/-- What each operation has made: a block and what it holds. -/
abbrev Made := Nat → Option (Nat × Obj)
def Made.put (fs : Made) (j : Nat) (x : Nat × Obj) : Made := fun i => if i = j then some x else fs i
theorem Made.put_comm (fs : Made) {i j : Nat} (x y : Nat × Obj) (h : i ≠ j) : (fs.put i x).put j y = (fs.put j y).put i x := by
  funext k
  unfold Made.put
  by_cases h1 : k = j
  · subst h1; rw [if_pos rfl, if_neg (Ne.symm h), if_pos rfl]
  · rw [if_neg h1]
    by_cases h2 : k = i
    · subst h2; rw [if_pos rfl, if_pos rfl]
    · rw [if_neg h2, if_neg h2, if_neg h1]
structure Fresh (W : World) (fs : Made) (b : Nat) : Prop where
  new : W.heap.size ≤ b
  other : ∀ i c z, fs i = some (c, z) → c ≠ b
structure Holds (W : World) (D : Nat → Bool) (fs : Made) (w : World) : Prop where
  below : Below W.heap.size W w
  made : ∀ i b z, D i = true → fs i = some (b, z) → W.heap.size ≤ b ∧ w.heap[b]? = some z
def allOf : Nat → Bool := fun _ => true
theorem Holds.less {W : World} {D : Nat → Bool} {fs : Made} {w : World} (h : Holds W allOf fs w) : Holds W D fs w := ⟨h.below, fun i b z _ he => h.made i b z rfl he⟩
theorem Holds.put {W : World} {D : Nat → Bool} {fs : Made} {w : World} {j : Nat} {x : Nat × Obj} (hD : D j = false) : Holds W D (fs.put j x) w ↔ Holds W D fs w := by
  have key : ∀ i, D i = true → fs.put j x i = fs i := fun i hi => by
    unfold Made.put
    rw [if_neg]
    rintro rfl
    rw [hD] at hi
    cases hi
  exact ⟨fun h => ⟨h.below, fun i b z hi he => h.made i b z hi (by rw [key i hi]; exact he)⟩, fun h => ⟨h.below, fun i b z hi he => h.made i b z hi (by rw [← key i hi]; exact he)⟩⟩
theorem heap_lt2 {w : World} {b : Nat} {o : Obj} (h : w.heap[b]? = some o) : b < w.heap.size := by
  rcases Nat.lt_or_ge b w.heap.size with h' | h'
  · exact h'
  · simp [Array.getElem?_eq_none h'] at h
theorem Holds.fresh {W : World} {fs : Made} {w : World} (h : Holds W allOf fs w) : Fresh W fs w.heap.size :=
  ⟨h.below.size, fun i c z he hc => by
    have := heap_lt2 (h.made i c z rfl he).2
    omega⟩
theorem Holds.alloc {W : World} {fs : Made} {w : World} (h : Holds W allOf fs w) (j : Nat) (z : Obj) : Holds W allOf (fs.put j (w.heap.size, z)) (w.alloc z) :=
  ⟨h.below.alloc h.below.size z, fun i b z' _ he => by
    unfold Made.put at he
    by_cases hi : i = j
    · rw [if_pos hi] at he
      cases he
      exact ⟨h.below.size, by rw [heap_alloc_get, if_pos rfl]⟩
    · rw [if_neg hi] at he
      obtain ⟨h1, h2⟩ := h.made i b z' rfl he
      exact ⟨h1, by rw [heap_alloc_get, if_neg (by have := heap_lt2 h2; omega)]; exact h2⟩⟩
theorem Holds.step {W : World} {D : Nat → Bool} {fs : Made} {w w' : World} (h : Holds W D fs w) (hb : Below w.heap.size w w') : Holds W D fs w' :=
  ⟨below_step h.below hb, fun i b z hi he => by
    obtain ⟨h1, h2⟩ := h.made i b z hi he
    exact ⟨h1, (hb.block b (heap_lt2 h2)).trans h2⟩⟩

/-- Where the walk stands: the world is not held, or it is. -/
inductive Ph | soft (fs : Made) | hard (w : World)
def Ph.J (W : World) : Ph → World → Prop
  | .soft fs, w => Holds W allOf fs w
  | .hard w0, w => w = w0

/-- 0 it moves the world · 1 one value in every world of the class · 3 it makes a block · 4 one value in every world the walk may stand in; it may make memory that nobody sees. -/
def swaps2 : Nat → Nat → Bool
  | 1, _ => true
  | _, 1 => true
  | 3, 3 => true
  | 3, 4 => true
  | 4, 3 => true
  | 4, 4 => true
  | _, _ => false

theorem ends_one {P : Program} : ∀ (n1 n2 : Nat) (m m1 m2 : Machine), runN P n1 m = .next m1 → runN P n2 m = .next m2 → (∀ m', step P m1 ≠ .next m') → (∀ m', step P m2 ≠ .next m') → m1 = m2
  | 0, 0, m, m1, m2, h1, h2, _, _ => by cases h1; cases h2; rfl
  | 0, n + 1, m, m1, m2, h1, h2, e1, _ => by
    cases h1
    unfold runN at h2
    cases hs : step P m with
    | next m' => exact (e1 m' hs).elim
    | ended x w => rw [hs] at h2; cases h2
  | n + 1, 0, m, m1, m2, h1, h2, _, e2 => by
    cases h2
    unfold runN at h1
    cases hs : step P m with
    | next m' => exact (e2 m' hs).elim
    | ended x w => rw [hs] at h1; cases h1
  | n1 + 1, n2 + 1, m, m1, m2, h1, h2, e1, e2 => by
    unfold runN at h1 h2
    cases hs : step P m with
    | next m' => rw [hs] at h1 h2; exact ends_one n1 n2 m' m1 m2 h1 h2 e1 e2
    | ended x w => rw [hs] at h1; cases h1
theorem Calls.one {f : FuncId} {args : Array Value} {w : World} {v1 v2 : Value} {R1 R2 : World → Prop} (hi : P.inits.idxOf? f = none)
    (h1 : Calls P f args w fun e w' => e = .returned v1 ∧ R1 w') (h2 : Calls P f args w fun e w' => e = .returned v2 ∧ R2 w') : v1 = v2 := by
  obtain ⟨e1, w1, fr1, ⟨rfl, _⟩, ⟨n1, c1⟩, hf1, l1⟩ := h1 []
  obtain ⟨e2, w2, fr2, ⟨rfl, _⟩, ⟨n2, c2⟩, hf2, l2⟩ := h2 []
  have s1 := step_leave_done l1 (by rw [hf1]; exact hi)
  have s2 := step_leave_done l2 (by rw [hf2]; exact hi)
  have := ends_one n1 n2 _ _ _ c1 c2 (fun m' h => by rw [s1] at h; cases h) (fun m' h => by rw [s2] at h; cases h)
  rw [this, s2] at s1
  cases s1
  rfl
/-- It calls a Go function that hands back v. -/
def gives (P : Program) (o : Oper) (a : Act) (w : World) (v : Value) : Prop :=
  match (execOp a.eval o).run P w with
  | .ok (.enter f args) w' => w' = w ∧ P.inits.idxOf? f = none ∧ Calls P f args w fun e w'' => e = .returned v ∧ Below w.heap.size w w''
  | _ => False
theorem gives_inj {o : Oper} {a : Act} {w : World} {v u : Value} (h : gives P o a w v) (h' : gives P o a w u) : v = u := by
  unfold gives at *
  generalize (execOp a.eval o).run P w = r at *
  cases r with
  | ok n w' =>
    cases n <;> simp only at h h'
    exact Calls.one h.2.1 h.2.2 h'.2.2
  | halt x w' => exact h.elim
theorem leads_of_gives {o : Oper} {a : Act} {w : World} {v : Value} {R : Value → World → Prop} (h : gives P o a w v) (hr : ∀ w', Below w.heap.size w w' → R v w') : leads P o a w R := by
  unfold gives leads at *
  generalize (execOp a.eval o).run P w = r at *
  cases r with
  | ok n w' =>
    cases n <;> simp only at h ⊢
    exact h.1 ▸ h.2.2.mono fun e w'' ⟨he, hb⟩ => ⟨v, he, hr _ hb⟩
  | halt x w' => exact h.elim
def makesAt (P : Program) (o : Oper) (a : Act) (z : Obj) (f : Nat → Value) : Prop := ∀ w : World, (execOp a.eval o).run P w = .ok (.value (f w.heap.size)) (w.alloc z)
def givesAt (P : Program) (W : World) (D : Nat → Bool) (fs : Made) (o : Oper) (a : Act) (v : Value) : Prop := ∀ w, Holds W D fs w → gives P o a w v

def SuIn (P : Program) (W : World) (Z : World → Prop) (D : Nat → Bool) (j m : Nat) (o : Oper) (a : Act) (ph : Ph) (R : Value → Ph → Prop) : Prop :=
  match m with
  | 1 => ∃ v, (∀ w', Z w' → keeps P o a w' v) ∧ R v ph
  | 3 => ∃ fs, ph = .soft fs ∧ ∃ z f, makesAt P o a z f ∧ ∀ b, Fresh W fs b → R (f b) (.soft (fs.put j (b, z)))
  | 4 => ∃ fs, ph = .soft fs ∧ ∃ v, givesAt P W D fs o a v ∧ R v ph
  | _ => ∀ w, ph.J W w → leads P o a w fun v w' => Z w' ∧ R v (.hard w')
def Su (P : Program) (W : World) (ops : Array Oper) (Z : World → Prop) (D : Nat → Bool) (j m : Nat) (o : Oper) (a : Act) (ph : Ph) (R : Value → Ph → Prop) : Prop :=
  if Region.wanted o (yielded ops a.tmps) then SuIn P W Z D j m o a ph R else R undef ph

variable {W : World} {Z : World → Prop}
/-- What the walk knows. -/
structure Stand (W : World) (Z : World → Prop) (ph : Ph) : Prop where
  some : ∃ w, ph.J W w
  inZ : ∀ w, ph.J W w → Z w

theorem Stand.hard {w : World} (h : Z w) : Stand W Z (.hard w) := ⟨⟨w, rfl⟩, fun _ e => e ▸ h⟩
theorem Stand.soft {fs : Made} (hZ : ∀ w, Below W.heap.size W w → Z w) {w : World} (h : Holds W allOf fs w) : Stand W Z (.soft fs) := ⟨⟨w, h⟩, fun _ h => hZ _ h.below⟩

theorem Holds.any {fs : Made} {w : World} (h : Holds W allOf fs w) (j : Nat) {b : Nat} (z : Obj) (hb : Fresh W fs b) : ∃ w', Holds W allOf (fs.put j (b, z)) w' := by
  refine ⟨{ w with heap := (w.heap ++ Array.replicate (b + 1) z).setIfInBounds b z }, ⟨h.below.os, h.below.tape, h.below.output, ?_, fun k hk => ?_⟩, fun i c y _ he => ?_⟩
  · have := h.below.size
    simp
    omega
  · have h1 := h.below.size
    have h2 := hb.new
    rw [Array.getElem?_setIfInBounds, if_neg (by omega), Array.getElem?_append_left (by omega)]
    exact h.below.block k hk
  · unfold Made.put at he
    by_cases hi : i = j
    · rw [if_pos hi] at he
      cases he
      exact ⟨hb.new, by rw [Array.getElem?_setIfInBounds, if_pos rfl, if_pos (by simp; omega)]⟩
    · rw [if_neg hi] at he
      obtain ⟨h1, h2⟩ := h.made i c y rfl he
      have h3 := heap_lt2 h2
      refine ⟨h1, ?_⟩
      rw [Array.getElem?_setIfInBounds, if_neg (fun e => hb.other i c y he e.symm), Array.getElem?_append_left h3]
      exact h2

/-- Nothing is made by k. -/
def Ph.un (ph : Ph) (k : Nat) : Prop := ∀ fs, ph = .soft fs → fs k = none
theorem Ph.un_hard (w : World) (k : Nat) : (Ph.hard w).un k := fun _ e => by cases e
theorem Ph.un_put {fs : Made} {j k : Nat} {x : Nat × Obj} (hk : k ≠ j) (h : (Ph.soft fs).un k) : (Ph.soft (fs.put j x)).un k := fun _ e => by
  cases e
  unfold Made.put
  rw [if_neg hk]
  exact h _ rfl
theorem Su_mono {D : Nat → Bool} {j m : Nat} {o : Oper} {a : Act} {ph : Ph} {R R' : Value → Ph → Prop} (hZ : ∀ w, Below W.heap.size W w → Z w) (hs : Stand W Z ph)
    (h : ∀ v ph', Stand W Z ph' → (∀ k, k ≠ j → ph.un k → ph'.un k) → R v ph' → R' v ph') (hh : Su P W ops Z D j m o a ph R) : Su P W ops Z D j m o a ph R' := by
  unfold Su at *
  split
  · rename_i hq
    rw [if_pos hq] at hh
    unfold SuIn at *
    split at hh
    · obtain ⟨v, h1, h2⟩ := hh; exact ⟨v, h1, h _ _ hs (fun _ _ h => h) h2⟩
    · obtain ⟨fs, rfl, z, f, h1, h2⟩ := hh
      refine ⟨fs, rfl, z, f, h1, fun b hb => ?_⟩
      obtain ⟨w, hw⟩ := hs.some
      exact h _ _ ⟨Holds.any hw j z hb, fun w' hw' => hZ _ hw'.below⟩ (fun k hk hu => Ph.un_put hk hu) (h2 b hb)
    · obtain ⟨fs, rfl, v, h1, h2⟩ := hh; exact ⟨fs, rfl, v, h1, h _ _ hs (fun _ _ h => h) h2⟩
    · intro w hw
      exact leads_mono (fun v w' hz => ⟨hz.1, h _ _ (Stand.hard hz.1) (fun k _ _ => Ph.un_hard w' k) hz.2⟩) (hh w hw)
  · rename_i hq
    rw [if_neg hq] at hh
    exact h _ _ hs (fun _ _ h => h) hh

theorem Su_put {D : Nat → Bool} {j m : Nat} {o : Oper} {a : Act} {ph : Ph} {R : Value → Ph → Prop} {d : Option Tmp} {u : Value} (hs : ∀ cs b, o.op ≠ .select cs b) (h : ∀ t, d = some t → t ∉ o.looksAt ops) :
    Su P W ops Z D j m o (a.put d u) ph R ↔ Su P W ops Z D j m o a ph R := by
  unfold Su SuIn makesAt givesAt gives keeps leads
  rw [wanted_put o a d u h, execOp_put o hs a d u h]


theorem makes_inj {o : Oper} {a : Act} {z z' : Obj} {f f' : Nat → Value} (h : makesAt P o a z f) (h' : makesAt P o a z' f') (w : World) : z = z' ∧ f = f' := by
  have key : ∀ n, f n = f' n ∧ z = z' := fun n => by
    have h1 := h { w with heap := Array.replicate n z }
    rw [h' { w with heap := Array.replicate n z }] at h1
    simp only [Result.ok.injEq, Next.value.injEq, Array.size_replicate] at h1
    refine ⟨h1.1.symm, ?_⟩
    have h2 := congrArg (fun w : World => w.heap[n]?) h1.2
    simp only [heap_alloc_get, Array.size_replicate, if_pos] at h2
    exact (Option.some.inj h2).symm
  exact ⟨(key 0).2, funext fun n => (key n).1⟩

theorem Fresh.of_put {fs : Made} {i : Nat} {x : Nat × Obj} {b : Nat} (h : Fresh W (fs.put i x) b) (hn : fs i = none) : Fresh W fs b ∧ x.1 ≠ b :=
  ⟨⟨h.new, fun k c z he => by
    by_cases hk : k = i
    · subst hk; rw [hn] at he; cases he
    · exact h.other k c z (by unfold Made.put; rw [if_neg hk]; exact he)⟩,
   h.other i x.1 x.2 (by unfold Made.put; rw [if_pos rfl])⟩
theorem Fresh.put {fs : Made} {i : Nat} {x : Nat × Obj} {b : Nat} (h : Fresh W fs b) (hx : x.1 ≠ b) : Fresh W (fs.put i x) b :=
  ⟨h.new, fun k c z he => by
    unfold Made.put at he
    by_cases hk : k = i
    · rw [if_pos hk] at he; cases he; exact hx
    · rw [if_neg hk] at he; exact h.other k c z he⟩

/-- **TWO OPERATIONS CHANGE PLACES.** -/
theorem Su_swap {Di Dj : Nat → Bool} {i j mi mj : Nat} {oi oj : Oper} {a : Act} {ph : Ph} {R : Value → Value → Ph → Prop} (hZ : ∀ w, Below W.heap.size W w → Z w) (hij : i ≠ j) (hDi : Di j = false) (hDj : Dj i = false) (hm : swaps2 mi mj = true) (hs : Stand W Z ph)
    (hni : ph.un i) (hnj : ph.un j)
    (h : Su P W ops Z Di i mi oi a ph fun v ph1 => Su P W ops Z Dj j mj oj a ph1 fun u ph2 => R v u ph2) :
    Su P W ops Z Dj j mj oj a ph fun u ph1 => Su P W ops Z Di i mi oi a ph1 fun v ph2 => R v u ph2 := by
  by_cases hi : Region.wanted oi (yielded ops a.tmps) = true
  case neg =>
    have e : ∀ ph (R : Value → Ph → Prop), Su P W ops Z Di i mi oi a ph R = R undef ph := fun w R => by unfold Su; rw [if_neg hi]
    rw [e] at h
    simp only [e]
    exact h
  by_cases hj : Region.wanted oj (yielded ops a.tmps) = true
  case neg =>
    have e : ∀ ph (R : Value → Ph → Prop), Su P W ops Z Dj j mj oj a ph R = R undef ph := fun w R => by unfold Su; rw [if_neg hj]
    rw [e]
    simp only [e] at h
    exact h
  have ei : ∀ ph (R : Value → Ph → Prop), Su P W ops Z Di i mi oi a ph R = SuIn P W Z Di i mi oi a ph R := fun w R => by unfold Su; rw [if_pos hi]
  have ej : ∀ ph (R : Value → Ph → Prop), Su P W ops Z Dj j mj oj a ph R = SuIn P W Z Dj j mj oj a ph R := fun w R => by unfold Su; rw [if_pos hj]
  obtain ⟨w0, hw0⟩ := hs.some
  by_cases h1 : mi = 1
  · subst h1
    simp only [ei, SuIn] at h ⊢
    obtain ⟨v, hv, hR⟩ := h
    exact Su_mono hZ hs (fun u ph1 _ _ hr => ⟨v, hv, hr⟩) hR
  by_cases h2 : mj = 1
  · subst h2
    simp only [ej] at h ⊢
    have hex : ∃ v ph1, Stand W Z ph1 ∧ ∃ u, (∀ w', Z w' → keeps P oj a w' u) ∧ R v u ph1 := by
      rw [ei] at h
      unfold SuIn at h
      split at h
      · obtain ⟨v, _, hr⟩ := h; exact ⟨v, ph, hs, hr⟩
      · obtain ⟨fs, rfl, z, f, _, hr⟩ := h
        have hb := Holds.fresh hw0
        exact ⟨f w0.heap.size, .soft (fs.put i (w0.heap.size, z)), ⟨Holds.any hw0 i z hb, fun w' hw' => hZ _ hw'.below⟩, hr _ hb⟩
      · obtain ⟨fs, rfl, v, _, hr⟩ := h; exact ⟨v, _, hs, hr⟩
      · obtain ⟨v, w1, hz, hr⟩ := leads_some (h w0 hw0); exact ⟨v, _, Stand.hard hz, hr⟩
    obtain ⟨_, ph1, hs1, u, hu, _⟩ := hex
    have hz0 := hs.inZ _ hw0
    refine ⟨u, hu, Su_mono hZ hs (fun v w1 hz1 _ hr => ?_) h⟩
    obtain ⟨u', hu', hr'⟩ := hr
    rw [keeps_inj (hu _ hz0) (hu' _ hz0)]
    exact hr'
  simp only [ei, ej] at h ⊢
  have h3 : (mi = 3 ∨ mi = 4) ∧ (mj = 3 ∨ mj = 4) := by
    match mi, mj, hm, h1, h2 with
    | 3, 3, _, _, _ => exact ⟨.inl rfl, .inl rfl⟩
    | 3, 4, _, _, _ => exact ⟨.inl rfl, .inr rfl⟩
    | 4, 3, _, _, _ => exact ⟨.inr rfl, .inl rfl⟩
    | 4, 4, _, _, _ => exact ⟨.inr rfl, .inr rfl⟩
    | 0, n, hm, _, h2 => match n, hm, h2 with | 0, hm, _ => simp [swaps2] at hm | n + 2, hm, _ => simp [swaps2] at hm
    | 2, n, hm, _, h2 => match n, hm, h2 with | 0, hm, _ => simp [swaps2] at hm | n + 2, hm, _ => simp [swaps2] at hm
    | 3, 0, hm, _, _ => simp [swaps2] at hm
    | 3, 2, hm, _, _ => simp [swaps2] at hm
    | 3, n + 5, hm, _, _ => simp [swaps2] at hm
    | 4, 0, hm, _, _ => simp [swaps2] at hm
    | 4, 2, hm, _, _ => simp [swaps2] at hm
    | 4, n + 5, hm, _, _ => simp [swaps2] at hm
    | k + 5, n, hm, _, h2 => match n, hm, h2 with | 0, hm, _ => simp [swaps2] at hm | n + 2, hm, _ => simp [swaps2] at hm
  obtain ⟨rfl | rfl, rfl | rfl⟩ := h3
  · -- makers
    simp only [SuIn] at h ⊢
    obtain ⟨fs, rfl, z, f, hM, h⟩ := h
    have n1 := hni fs rfl
    have n2 := hnj fs rfl
    have hb0 := Holds.fresh hw0
    obtain ⟨_, e, z', f', hM', _⟩ := h _ hb0
    cases e
    refine ⟨fs, rfl, z', f', hM', fun b' hb' => ⟨_, rfl, z, f, hM, fun b hb => ?_⟩⟩
    obtain ⟨g1, g2⟩ := hb.of_put n2
    obtain ⟨_, e, z2, f2, hM2, hR⟩ := h b g1
    cases e
    obtain ⟨rfl, rfl⟩ := makes_inj hM' hM2 W
    have := hR b' (hb'.put (Ne.symm g2))
    rw [Made.put_comm _ _ _ hij] at this
    exact this
  · -- maker, then value
    simp only [SuIn] at h ⊢
    obtain ⟨fs, rfl, z, f, hM, h⟩ := h
    have hb0 := Holds.fresh hw0
    obtain ⟨_, e, v, hv, _⟩ := h _ hb0
    cases e
    have hv' : givesAt P W Dj fs oj a v := fun w hw => hv w ((Holds.put hDj).2 hw)
    refine ⟨fs, rfl, v, hv', fs, rfl, z, f, hM, fun b hb => ?_⟩
    obtain ⟨_, e, v2, hv2, hR⟩ := h b hb
    cases e
    have := gives_inj (hv' w0 (Holds.less hw0)) (hv2 w0 ((Holds.put hDj).2 (Holds.less hw0)))
    rw [this]
    exact hR
  · -- value, then maker
    simp only [SuIn] at h ⊢
    obtain ⟨fs, rfl, v, hv, fs', e, z, f, hM, h⟩ := h
    cases e
    exact ⟨fs, rfl, z, f, hM, fun b hb => ⟨_, rfl, v, fun w hw => hv w ((Holds.put hDi).1 hw), h b hb⟩⟩
  · simp only [SuIn] at h ⊢
    obtain ⟨fs, rfl, v, hv, fs', e, u, hu, h⟩ := h
    cases e
    exact ⟨fs, rfl, u, hu, fs, rfl, v, hv, h⟩

/-! ### Whatever order -/

def anyS (P : Program) (W : World) (md : Region.Mode) (ops : Array Oper) (Z : World → Prop) (mk ms : List Nat) (Q : Act → World → Prop) : Nat → Array Bool → Act → Ph → Prop
  | 0, listed, a, ph => Region.ready md ops listed = [] ∧ ∀ w, ph.J W w → Q a w
  | fuel + 1, listed, a, ph => (Region.ready md ops listed = [] → ∀ w, ph.J W w → Q a w) ∧
    ∀ i ∈ Region.ready md ops listed, ∀ o, ops[i]? = some o → Su P W ops Z (fun k => (mk.getD i 0).testBit k) i (modeAt ms i) o a ph fun v ph' => anyS P W md ops Z mk ms Q fuel (listed.setIfInBounds i true) (a.put o.dst v) ph'

theorem any_of_anyS {mk ms : List Nat} {Q : Exit → Act → World → Prop} (hZ : ∀ w, Below W.heap.size W w → Z w) : ∀ (fuel : Nat) (listed : Array Bool) (a : Act) (ph : Ph) (w : World), ph.J W w → Stand W Z ph →
    anyS P W md ops Z mk ms (Q .normal) fuel listed a ph → wpAny P md ops Q fuel listed a w
  | 0, _, _, _, _, hj, _, h => ⟨h.1, h.2 _ hj⟩
  | fuel + 1, listed, a, ph, w, hj, hs, h => by
    refine ⟨fun hr => h.1 hr w hj, fun i hi => ?_⟩
    obtain ⟨_, o, ho, _⟩ := mem_ready.1 hi
    have hst := h.2 i hi o ho
    unfold wpOp
    simp only [ho]
    unfold Su at hst
    split
    · rename_i hq
      rw [if_pos hq] at hst
      refine .inl (wp_of_leads ?_)
      unfold SuIn at hst
      split at hst
      · obtain ⟨v, hv, hr⟩ := hst; exact leads_of_keeps (hv _ (hs.inZ _ hj)) (any_of_anyS hZ fuel _ _ _ _ hj hs hr)
      · obtain ⟨fs, rfl, z, f, hM, hr⟩ := hst
        have hb := Holds.fresh hj
        unfold leads
        rw [hM w]
        exact any_of_anyS hZ fuel _ _ (.soft (fs.put i (w.heap.size, z))) _ (Holds.alloc hj i z) ⟨⟨w.alloc z, Holds.alloc hj i z⟩, fun w' hw' => hZ _ hw'.below⟩ (hr _ hb)
      · obtain ⟨fs, rfl, v, hv, hr⟩ := hst
        exact leads_of_gives (hv w (Holds.less hj)) fun w' hb => any_of_anyS hZ fuel _ _ (.soft fs) _ (Holds.step hj hb) hs hr
      · exact leads_mono (fun v w' hz => any_of_anyS hZ fuel _ _ (.hard w') _ rfl (Stand.hard hz.1) hz.2) (hst w hj)
    · rename_i hq
      rw [if_neg hq] at hst
      exact any_of_anyS hZ fuel _ _ _ _ hj hs hst

def Fits2 (md : Region.Mode) (ops : Array Oper) (ms : List Nat) : Prop :=
  ∀ i j, i < ops.size → j < ops.size → i ≠ j → swaps2 (modeAt ms i) (modeAt ms j) = true ∨ Waits md ops i j ∨ Waits md ops j i

theorem anyS_first {mk ms : List Nat} {Q : Act → World → Prop} {i : Nat} {oi : Oper} (hZ : ∀ w, Below W.heap.size W w → Z w) (hi : ops[i]? = some oi) (hsel : ∀ (j : Nat) (o : Oper) cs b, ops[j]? = some o → o.op ≠ .select cs b) (hfit : Fits2 md ops ms)
    (hmk : ∀ j k, (mk.getD j 0).testBit k = true → Waits md ops k j) :
    ∀ (fuel : Nat) (listed : Array Bool) (a : Act) (ph : Ph), Stand W Z ph → (∀ k, listed.getD k true = false → ph.un k) → Shut md ops listed →
      (∀ j oj, ops[j]? = some oj → j ≠ i → listed.getD j true = false → (∀ e ∈ oj.after, Region.binds md e = true → e.on ≠ i) → oi.apart ops oj = true) →
      i ∈ Region.ready md ops listed →
      (Su P W ops Z (fun k => (mk.getD i 0).testBit k) i (modeAt ms i) oi a ph fun v ph' => anyS P W md ops Z mk ms Q fuel (listed.setIfInBounds i true) (a.put oi.dst v) ph') →
      anyS P W md ops Z mk ms Q (fuel + 1) listed a ph := by
  intro fuel
  induction fuel with
  | zero =>
    intro listed a ph hs hun hshut hfree hr H
    refine ⟨fun h => (by rw [h] at hr; cases hr), fun j hj oj hoj => ?_⟩
    by_cases hji : j = i
    · subst hji; rw [hi] at hoj; cases hoj; exact H
    · exfalso
      have : ∃ v ph', anyS P W md ops Z mk ms Q 0 (listed.setIfInBounds i true) (a.put oi.dst v) ph' := by
        obtain ⟨w0, hw0⟩ := hs.some
        unfold Su at H
        split at H
        · unfold SuIn at H
          split at H
          · obtain ⟨v, _, h⟩ := H; exact ⟨v, ph, h⟩
          · obtain ⟨fs, rfl, z, f, _, h⟩ := H; exact ⟨_, _, h _ (Holds.fresh hw0)⟩
          · obtain ⟨fs, rfl, v, _, h⟩ := H; exact ⟨v, _, h⟩
          · obtain ⟨v, w', _, h⟩ := leads_some (H w0 hw0); exact ⟨v, _, h⟩
        · exact ⟨_, _, H⟩
      obtain ⟨v, ph', h0, _⟩ := this
      have := ready_mono hj hji
      rw [h0] at this
      cases this
  | succ fuel ih =>
    intro listed a ph hs hun hshut hfree hr H
    refine ⟨fun h => (by rw [h] at hr; cases hr), fun j hj oj hoj => ?_⟩
    by_cases hji : j = i
    · subst hji; rw [hi] at hoj; cases hoj; exact H
    obtain ⟨hjun, oj', hoj', hall⟩ := mem_ready.1 hj
    rw [hoj] at hoj'; cases hoj'
    have hiun := (mem_ready.1 hr).1
    have hnot : ∀ e ∈ oj.after, Region.binds md e = true → e.on ≠ i := fun e he hb heq => by
      have h1 := hall e he hb
      rw [heq, getD_mix hiun] at h1; cases h1
    have hap := hfree j oj hoj hji hjun hnot
    obtain ⟨p1, p2, p3⟩ := Oper.apart_spec hap
    have hwij : ¬ Waits md ops i j := fun h => h.not_ready hshut hiun hj
    have hwji : ¬ Waits md ops j i := fun h => h.not_ready hshut hjun hr
    have hsw : swaps2 (modeAt ms i) (modeAt ms j) = true := by
      rcases hfit i j (ready_lt hr) (ready_lt hj) (Ne.symm hji) with h | h | h
      · exact h
      · exact (hwij h).elim
      · exact (hwji h).elim
    have hfree' : ∀ k ok, ops[k]? = some ok → k ≠ i → (listed.setIfInBounds j true).getD k true = false →
        (∀ e ∈ ok.after, Region.binds md e = true → e.on ≠ i) → oi.apart ops ok = true := fun k ok hk hki hun hno => by
      refine hfree k ok hk hki ?_ hno
      by_cases hjk : j = k
      · subst hjk; exact hjun
      · rw [getD_set_ne true hjk] at hun; exact hun
    have H2 : Su P W ops Z (fun k => (mk.getD i 0).testBit k) i (modeAt ms i) oi a ph fun v ph1 => Su P W ops Z (fun k => (mk.getD j 0).testBit k) j (modeAt ms j) oj a ph1 fun u ph2 =>
        anyS P W md ops Z mk ms Q fuel ((listed.setIfInBounds i true).setIfInBounds j true) ((a.put oi.dst v).put oj.dst u) ph2 :=
      Su_mono hZ hs (fun v ph1 _ _ h => (Su_put (fun cs b => hsel j oj cs b hoj) p1).1 (h.2 j (ready_mono hj hji) oj hoj)) H
    have hD : ∀ x y, ¬ Waits md ops x y → (mk.getD y 0).testBit x = false := fun x y h => by
      cases hb : (mk.getD y 0).testBit x with
      | false => rfl
      | true => exact (h (hmk _ _ hb)).elim
    refine Su_mono hZ hs (fun u ph1 hs1 hk1 h => ?_) (Su_swap hZ (Ne.symm hji) (hD j i hwji) (hD i j hwij) hsw hs (hun i hiun) (hun j hjun) H2)
    refine ih (listed.setIfInBounds j true) (a.put oj.dst u) ph1 hs1 (fun k hk => ?_) (hshut.set hj) hfree' (ready_mono hr (Ne.symm hji)) ?_
    · by_cases hjk : j = k
      · subst hjk
        rw [Array.getD_eq_getD_getElem?] at hk hjun
        rcases Nat.lt_or_ge j listed.size with h' | h'
        · simp [h'] at hk
        · simp [h'] at hjun
      · rw [getD_set_ne true hjk] at hk
        exact hk1 k (Ne.symm hjk) (hun k hk)
    refine (Su_put (fun cs b => hsel i oi cs b hi) p3).2 (Su_mono hZ hs1 (fun v ph2 _ _ h' => ?_) h)
    rw [Array.setIfInBounds_comm _ _ hji, ← Act.put_comm a v u p2]
    exact h'

/-! ### The walk in the order of the text -/

def wpSoft (P : Program) (W : World) (ops : Array Oper) (Z : World → Prop) (mk : List Nat) (Q : Act → World → Prop) : List Oper → List Nat → Nat → Act → Ph → Prop
  | [], _, _, a, ph => ∀ w, ph.J W w → Q a w
  | o :: r, ms, k, a, ph => Su P W ops Z (fun x => (mk.getD k 0).testBit x) k (modeAt ms 0) o a ph fun v ph' => wpSoft P W ops Z mk Q r ms.tail (k + 1) (a.put o.dst v) ph'

theorem anyS_lex {mk ms : List Nat} {Q : Act → World → Prop} (hZ : ∀ w, Below W.heap.size W w → Z w) (hs : Region.noSelect ops = true) (hfit : Fits2 md ops ms)
    (hmk : ∀ j k, (mk.getD j 0).testBit k = true → Waits md ops k j) : ∀ (l : List Oper) (k : Nat) (listed : Array Bool) (a : Act) (ph : Ph), Stand W Z ph → (∀ k, listed.getD k true = false → ph.un k) → Shut md ops listed → (∀ j, l[j]? = ops[k + j]?) →
    Region.lexFrom md ops l.length k listed = true → wpSoft P W ops Z mk Q l (ms.drop k) k a ph → anyS P W md ops Z mk ms Q l.length listed a ph
  | [], _, _, _, _, _, _, _, _, hB, h => ⟨by simpa [Region.lexFrom] using hB, h⟩
  | o :: l, k, listed, a, ph, hst, hun, hshut, hl, hB, h => by
    have h0 : ops[k]? = some o := by simpa using (hl 0).symm
    simp only [List.length_cons, Region.lexFrom, Bool.and_eq_true] at hB
    obtain ⟨⟨hr, hf⟩, hB'⟩ := hB
    have hr' : k ∈ Region.ready md ops listed := by simpa using hr
    have hmode : modeAt (ms.drop k) 0 = modeAt ms k := by simp [modeAt, List.getD_eq_getElem?_getD, List.getElem?_drop]
    simp only [wpSoft, hmode, List.tail_drop] at h
    refine anyS_first hZ h0 (Region.noSelect_spec hs) hfit hmk l.length listed a ph hst hun hshut (Region.free_spec h0 hf) hr' ?_
    refine Su_mono hZ hst (fun v ph1 hs1 hk1 h' => anyS_lex hZ hs hfit hmk l (k + 1) _ _ _ hs1 (fun j hj => ?_) (hshut.set hr') (fun j => by have := hl (j + 1); simpa [Nat.add_assoc, Nat.add_comm 1 j] using this) hB' h') h
    by_cases hjk : k = j
    · subst hjk
      have hjun := (mem_ready.1 hr').1
      rcases Nat.lt_or_ge k listed.size with h' | h'
      · simp [h'] at hj
      · simp [h'] at hjun
    · rw [getD_set_ne true hjk] at hj
      exact hk1 j (Ne.symm hjk) (hun j hj)

def pairsS (mk : List Nat) (ms : List Nat) : Nat → Bool
  | 0 => true
  | j + 1 => (List.range j).all (fun i => swaps2 (modeAt ms i) (modeAt ms j) || (mk.getD j 0).testBit i) && pairsS mk ms j
def softB (md : Region.Mode) (l : List Oper) (ms : List Nat) : Bool :=
  lexQ md l && (ms.length == l.length) && pairsS (masks md [] l) ms l.length && (l.zip ms).all fun x => x.2 != 1 || valued x.1.op
theorem pairsS_spec {mk ms : List Nat} : ∀ {n : Nat}, pairsS mk ms n = true → ∀ j i, j < n → i < j → swaps2 (modeAt ms i) (modeAt ms j) = true ∨ (mk.getD j 0).testBit i = true
  | 0, _, j, i, hj, _ => by omega
  | n + 1, h, j, i, hj, hi => by
    simp only [pairsS, Bool.and_eq_true, List.all_eq_true, List.mem_range, Bool.or_eq_true] at h
    by_cases hjn : j = n
    · subst hjn; exact h.1 i hi
    · exact pairsS_spec h.2 j i (by omega) hi
theorem swaps2_symm {x y : Nat} (h : swaps2 x y = true) : swaps2 y x = true := by
  have k : ∀ n, swaps2 n 1 = true := fun n => match n with | 0 => rfl | 1 => rfl | 2 => rfl | 3 => rfl | 4 => rfl | n + 5 => rfl
  by_cases hx : x = 1
  · subst hx; exact k y
  by_cases hy : y = 1
  · subst hy; rfl
  match x, y, hx, hy, h with
  | 3, 3, _, _, _ => rfl
  | 3, 4, _, _, _ => rfl
  | 4, 3, _, _, _ => rfl
  | 4, 4, _, _, _ => rfl
  | 0, 0, _, _, h => simp [swaps2] at h
  | 0, n + 2, _, _, h => simp [swaps2] at h
  | 2, 0, _, _, h => simp [swaps2] at h
  | 2, n + 2, _, _, h => simp [swaps2] at h
  | 3, 0, _, _, h => simp [swaps2] at h
  | 3, 2, _, _, h => simp [swaps2] at h
  | 3, n + 5, _, _, h => simp [swaps2] at h
  | 4, 0, _, _, h => simp [swaps2] at h
  | 4, 2, _, _, h => simp [swaps2] at h
  | 4, n + 5, _, _, h => simp [swaps2] at h
  | n + 5, 0, _, _, h => simp [swaps2] at h
  | n + 5, k + 2, _, _, h => simp [swaps2] at h

def noMade : Made := fun _ => none
/-- **A REGION THAT DRAWS ITS ORDER AND MAKES MEMORY, WALKED ONCE.** -/
theorem wp_region_soft {id : Nat} {Q : Exit → Act → World → Prop} {a : Act} {w : World} {l : List Oper} (S : Nat → Prop) (ms : List Nat) (hm : P.follows .mixedOrders = true) (hB : softB .any l ms = true)
    (hS : ∀ b, S b → b < w.heap.size) (h : wpSoft P w l.toArray (InExt S w) (masks .any [] l) (Q .normal) l ms 0 a (.soft noMade)) : (Code.region id l.toArray true).wp P Q a w := by
  simp only [softB, Bool.and_eq_true] at hB
  obtain ⟨⟨⟨hB, hlen⟩, hpairs⟩, _⟩ := hB
  have hB := lexB_of_Q hB
  simp only [Region.lexB, Bool.and_eq_true] at hB
  obtain ⟨hs, hlex⟩ := hB
  have hmk : ∀ j i, ((masks .any [] l).getD j 0).testBit i = true → Waits .any l.toArray i j :=
    masks_spec l [] (fun j hj => by simp) (fun j i h => by simp at h)
  have hfit : Fits2 .any l.toArray ms := fun i j hi hj hij => by
    have hi' : i < l.length := by simpa using hi
    have hj' : j < l.length := by simpa using hj
    rcases Nat.lt_or_gt_of_ne hij with h' | h'
    · rcases pairsS_spec hpairs j i hj' h' with h1 | h1
      · exact .inl h1
      · exact .inr (.inl (hmk _ _ h1))
    · rcases pairsS_spec hpairs i j hi' h' with h1 | h1
      · exact .inl (swaps2_symm h1)
      · exact .inr (.inr (hmk _ _ h1))
  have hZ : ∀ w', Below w.heap.size w w' → InExt S w w' := fun w' hb => (InExt.refl S w).below hS hb
  have hJ : Holds w allOf noMade w.drew := ⟨(Below.refl _ _).drew, fun i b z _ he => by cases he⟩
  refine wp_region_any hm (any_of_anyS (W := w) (Z := InExt S w) (mk := masks .any [] l) (ms := ms) hZ _ _ _ (.soft noMade) _ hJ (Stand.soft hZ hJ) ?_)
  have := anyS_lex (P := P) (W := w) (Z := InExt S w) (md := .any) (ops := l.toArray) (Q := Q .normal) hZ hs hfit hmk l 0 (Array.replicate l.toArray.size false) a (.soft noMade) (Stand.soft hZ hJ) (fun k _ fs e => by cases e; rfl) (fun j o ho hj => by rw [getD_replicate_mix] at hj; cases hj) (fun j => by simp) (by simpa using hlex) (by simpa using h)
  simpa using this

/-- The modes by the operations' kinds. -/
def sd (o : Oper) : Nat :=
  match o.op with
  | .alloc .. | .buildSlice .. => 3
  | .call { callee := .value .., .. } => 4
  | op => bif valued op then 1 else 0

theorem wp_region_made {id : Nat} {Q : Exit → Act → World → Prop} {a : Act} {w : World} {l : List Oper} (hm : P.follows .mixedOrders = true) (hB : softB .any l (l.map sd) = true)
    (h : wpSoft P w l.toArray (InExt (fun b => b < w.heap.size) w) (masks .any [] l) (Q .normal) l (l.map sd) 0 a (.soft noMade)) : (Code.region id l.toArray true).wp P Q a w :=
  wp_region_soft (fun b => b < w.heap.size) _ hm hB (fun _ h => h) h
end
section
variable {P : Program} {ops : Array Oper} {S : Nat → Prop} {W : World} {mk : List Nat} {Q : Act → World → Prop} {a : Act} {ph : Ph} {fs : Made} {o : Oper} {r : List Oper} {md : Oper → Nat} {k : Nat}
theorem sx_nil (h : ∀ w, ph.J W w → Q a w) : wpSoft P W ops (InExt S W) mk Q [] ([].map md) k a ph := h
theorem sx_free (hm : md o = 1) (hw : Region.wanted o (yielded ops a.tmps) = true) (hv : valued o.op = true)
    (h : ∀ K : Act → Prop, (∀ a', wpSoft P W ops (InExt S W) mk Q r (r.map md) (k + 1) a' ph → K a') → o.quiet P a (fun w' => ∃ x : Ext S W, w' = x.1) K) : wpSoft P W ops (InExt S W) mk Q (o :: r) ((o :: r).map md) k a ph := by
  rw [List.map_cons, hm]
  show Su P W ops _ _ k 1 o a ph _
  unfold Su
  rw [if_pos hw]
  obtain ⟨v, h1, h2⟩ := h (fun a' => wpSoft P W ops (InExt S W) mk Q r (r.map md) (k + 1) a' ph) (fun _ h => h)
  exact ⟨v, fun w' hz => keeps_of_quiet hv (h1 w' ⟨⟨w', hz⟩, rfl⟩), h2⟩
theorem sx_skip {j : Nat} {b : Bool} (_hg : o.guard = some (j, b)) (hw : Region.wanted o (yielded ops a.tmps) = false) (h : wpSoft P W ops (InExt S W) mk Q r (r.map md) (k + 1) (a.put o.dst undef) ph) : wpSoft P W ops (InExt S W) mk Q (o :: r) ((o :: r).map md) k a ph := by
  rw [List.map_cons]
  show Su P W ops _ _ k (md o) o a ph _
  unfold Su
  rw [if_neg (by rw [hw]; exact Bool.false_ne_true)]
  exact h
theorem sx_make (hm : md o = 3) (hw : Region.wanted o (yielded ops a.tmps) = true) {z : Obj} {f : Nat → Value} (h1 : makesAt P o a z f)
    (h2 : ∀ b, W.heap.size ≤ b → Fresh W fs b → wpSoft P W ops (InExt S W) mk Q r (r.map md) (k + 1) (a.put o.dst (f b)) (.soft (fs.put k (b, z)))) : wpSoft P W ops (InExt S W) mk Q (o :: r) ((o :: r).map md) k a (.soft fs) := by
  rw [List.map_cons, hm]
  show Su P W ops _ _ k 3 o a (.soft fs) _
  unfold Su
  rw [if_pos hw]
  exact ⟨fs, rfl, z, f, h1, fun b hb => h2 b hb.new hb⟩
theorem sx_alloc (hm : md o = 3) (hw : Region.wanted o (yielded ops a.tmps) = true) {cs : Array Value} {t : TypeId} (h1 : ∀ w : World, (execOp a.eval o).run P w = .ok (.value (.pointer (some ⟨w.heap.size, 0, none⟩))) (w.alloc (.cells cs t (0, 0))))
    (h2 : ∀ b, W.heap.size ≤ b → Fresh W fs b → wpSoft P W ops (InExt S W) mk Q r (r.map md) (k + 1) (a.put o.dst (.pointer (some ⟨b, 0, none⟩))) (.soft (fs.put k (b, .cells cs t (0, 0))))) : wpSoft P W ops (InExt S W) mk Q (o :: r) ((o :: r).map md) k a (.soft fs) :=
  sx_make hm hw (z := .cells cs t (0, 0)) (f := fun b => .pointer (some ⟨b, 0, none⟩)) h1 h2
theorem sx_give (hm : md o = 4) (hw : Region.wanted o (yielded ops a.tmps) = true) (v : Value)
    (h1 : ∀ w, Below W.heap.size W w → Holds W (fun x => (mk.getD k 0).testBit x) fs w → gives P o a w v)
    (h2 : wpSoft P W ops (InExt S W) mk Q r (r.map md) (k + 1) (a.put o.dst v) (.soft fs)) : wpSoft P W ops (InExt S W) mk Q (o :: r) ((o :: r).map md) k a (.soft fs) := by
  rw [List.map_cons, hm]
  show Su P W ops _ _ k 4 o a (.soft fs) _
  unfold Su
  rw [if_pos hw]
  exact ⟨fs, rfl, v, fun w hw => h1 w hw.below hw, h2⟩
theorem sx_move (hm : md o = 0) (hw : Region.wanted o (yielded ops a.tmps) = true)
    (h : ∀ w, ph.J W w → ∀ K : Act → World → Prop, (∀ a' w', (a'.defers = a.defers ∧ InExt S W w' ∧ wpSoft P W ops (InExt S W) mk Q r (r.map md) (k + 1) a' (.hard w')) → K a' w') → o.wp P a w K (fun _ _ _ => False)) : wpSoft P W ops (InExt S W) mk Q (o :: r) ((o :: r).map md) k a ph := by
  rw [List.map_cons, hm]
  show Su P W ops _ _ k 0 o a ph _
  unfold Su
  rw [if_pos hw]
  intro w hj
  exact leads_of_wp (R := fun a' w' => InExt S W w' ∧ wpSoft P W ops (InExt S W) mk Q r (r.map md) (k + 1) a' (.hard w')) (h w hj _ fun _ _ h => h)
theorem gives_of_calls {w : World} {v : Value} {f : FuncId} {args : Array Value} (he : (execOp a.eval o).run P w = .ok (.enter f args) w) (hi : P.inits.idxOf? f = none)
    (h : Calls P f args w fun e w' => e = .returned v ∧ Below w.heap.size w w') : gives P o a w v := by
  unfold gives
  rw [he]
  exact ⟨rfl, hi, h⟩
theorem gives_of {w : World} {v : Value}
    (h : ∀ G : FuncId → Array Value → Prop, (∀ f args, P.inits.idxOf? f = none → (Calls P f args w fun e w' => e = .returned v ∧ Below w.heap.size w w') → G f args) →
      match (execOp a.eval o).run P w with
      | .ok (.enter f args) w' => w' = w ∧ G f args
      | _ => False) : gives P o a w v := by
  have := h (fun f args => P.inits.idxOf? f = none ∧ Calls P f args w fun e w' => e = .returned v ∧ Below w.heap.size w w') (fun f args h1 h2 => ⟨h1, h2⟩)
  unfold gives
  generalize (execOp a.eval o).run P w = r at *
  cases r with
  | ok n w' => cases n <;> first | exact this | exact this.elim
  | halt x w' => exact this.elim
theorem Holds.uncover {fs : Made} {w : World} {k b : Nat} {z : Obj} (hn : fs k = none) (h : Holds W allOf (fs.put k (b, z)) w) : (W.heap.size ≤ b ∧ w.heap[b]? = some z) ∧ Holds W allOf fs w :=
  ⟨h.made k b z rfl (by unfold Made.put; rw [if_pos rfl]), h.below, fun i c y _ he => h.made i c y rfl (by
    unfold Made.put
    by_cases hi : i = k
    · subst hi; rw [hn] at he; cases he
    · rw [if_neg hi]; exact he)⟩
theorem Locs.set {b : Nat} {v : Value} {w : World} : ∀ {l : List (Nat × Array Value × TypeId)}, Locs w l → (∀ x ∈ l, x.1 ≠ b) → Locs (w.setCell ⟨b, 0, none⟩ v) l
  | [], _, _ => trivial
  | (c, cs, t) :: l, h, hne => ⟨(heap_setCell_get w ⟨b, 0, none⟩ v c (hne (c, cs, t) (by simp))).trans h.1, Locs.set h.2 fun x hx => hne x (by simp [hx])⟩
/-- A block that was made, and is stored into. -/
theorem Locs.made {l : List (Nat × Array Value × TypeId)} {w : World} {b : Nat} {cs : Array Value} {t : TypeId} (hl : Locs w l) (hw : w.heap[b]? = some (.cells cs t (0, 0)))
    (hne : ∀ x ∈ l, x.1 ≠ b) (v : Value) : Locs (w.setCell ⟨b, 0, none⟩ v) ((b, cs.setIfInBounds 0 v, t) :: l) := by
  refine ⟨?_, Locs.set hl hne⟩
  have hb := heap_lt hw
  show (w.heap.modify b _)[b]? = _
  rw [Array.getElem?_modify, if_pos rfl, hw]
  rfl
theorem Locs.old {l : List (Nat × Array Value × TypeId)} {W : World} (h : Locs W l) {b : Nat} (hb : W.heap.size ≤ b) : ∀ x ∈ l, x.1 ≠ b := by
  induction l with
  | nil => intro x hx; cases hx
  | cons y l ih =>
    obtain ⟨c, cs, t⟩ := y
    intro x hx
    rcases List.mem_cons.1 hx with rfl | hx
    · have := heap_lt h.1
      simp only
      omega
    · exact ih h.2 x hx
/-- One block made, and stored into, beside others. -/
theorem Locs.one {l : List (Nat × Array Value × TypeId)} {W w : World} (hl : Locs W l) (hb : Below W.heap.size W w) {b : Nat} {cs : Array Value} {t : TypeId} (hn : W.heap.size ≤ b) (hw : w.heap[b]? = some (.cells cs t (0, 0))) (v : Value) :
    Locs (w.setCell ⟨b, 0, none⟩ v) ((b, cs.setIfInBounds 0 v, t) :: l) := (hl.below hb).made hw (hl.old hn) v
/-- Two blocks made, and stored into. -/
theorem Locs.two {l : List (Nat × Array Value × TypeId)} {W w : World} (hl : Locs W l) (hb : Below W.heap.size W w) {b c : Nat} {cs ds : Array Value} {t u : TypeId} (hn : W.heap.size ≤ b) (hw : w.heap[b]? = some (.cells cs t (0, 0)))
    (hn' : W.heap.size ≤ c) (hw' : w.heap[c]? = some (.cells ds u (0, 0))) (hbc : b ≠ c) (v x : Value) :
    Locs ((w.setCell ⟨b, 0, none⟩ v).setCell ⟨c, 0, none⟩ x) ((c, ds.setIfInBounds 0 x, u) :: (b, cs.setIfInBounds 0 v, t) :: l) := by
  refine Locs.made (hl.one hb hn hw v) ?_ ?_ x
  · rw [heap_setCell_get _ _ _ _ (Ne.symm hbc)]; exact hw'
  · intro y hy
    rcases List.mem_cons.1 hy with rfl | hy
    · exact hbc
    · exact hl.old hn' y hy
theorem Fresh.ne {fs : Made} {b c : Nat} {k : Nat} {z : Obj} (h : Fresh W (fs.put k (c, z)) b) : c ≠ b := h.other k c z (by unfold Made.put; rw [if_pos rfl])
/-- Four cells written. -/
@[reducible] def put4 (w : World) (b : Nat) (x0 x1 x2 x3 : Value) : World := (((w.setCell ⟨b, 0, none⟩ x0).setCell ⟨b, 1, none⟩ x1).setCell ⟨b, 2, none⟩ x2).setCell ⟨b, 3, none⟩ x3
theorem put4_other (w : World) (b : Nat) (x0 x1 x2 x3 : Value) (c : Nat) (h : c ≠ b) : (put4 w b x0 x1 x2 x3).heap[c]? = w.heap[c]? := by
  unfold put4
  rw [heap_setCell_get _ _ _ _ h, heap_setCell_get _ _ _ _ h, heap_setCell_get _ _ _ _ h, heap_setCell_get _ _ _ _ h]
theorem heap_setCell_same {w : World} {b o : Nat} {cs : Array Value} {t : TypeId} (h : w.heap[b]? = some (.cells cs t (0, 0))) (v : Value) : (w.setCell ⟨b, o, none⟩ v).heap[b]? = some (.cells (cs.setIfInBounds o v) t (0, 0)) := by
  show (w.heap.modify b _)[b]? = _
  rw [Array.getElem?_modify, if_pos rfl, h]
  rfl
theorem put4_same {w : World} {b : Nat} {y0 y1 y2 y3 : Value} {t : TypeId} (h : w.heap[b]? = some (.cells #[y0, y1, y2, y3] t (0, 0))) (x0 x1 x2 x3 : Value) : (put4 w b x0 x1 x2 x3).heap[b]? = some (.cells #[x0, x1, x2, x3] t (0, 0)) := by
  unfold put4
  rw [heap_setCell_same (heap_setCell_same (heap_setCell_same (heap_setCell_same h x0) x1) x2) x3]
  rfl
theorem Locs.others {w w' : World} : ∀ {l : List (Nat × Array Value × TypeId)}, Locs w l → (∀ x ∈ l, w'.heap[x.1]? = w.heap[x.1]?) → Locs w' l
  | [], _, _ => trivial
  | (c, cs, t) :: _, h, he => ⟨(he (c, cs, t) (by simp)).trans h.1, Locs.others h.2 fun x hx => he x (by simp [hx])⟩
theorem Locs.four1 {l : List (Nat × Array Value × TypeId)} {W w : World} (hl : Locs W l) (hb : Below W.heap.size W w) {b : Nat} {y0 y1 y2 y3 : Value} {t : TypeId} (hn : W.heap.size ≤ b) (hw : w.heap[b]? = some (.cells #[y0, y1, y2, y3] t (0, 0))) (x0 x1 x2 x3 : Value) :
    Locs (put4 w b x0 x1 x2 x3) ((b, #[x0, x1, x2, x3], t) :: l) :=
  ⟨put4_same hw _ _ _ _, Locs.others (hl.below hb) fun x hx => put4_other _ _ _ _ _ _ _ (hl.old hn x hx)⟩
theorem Locs.four2 {l : List (Nat × Array Value × TypeId)} {W w : World} (hl : Locs W l) (hb : Below W.heap.size W w) {b c : Nat} {y0 y1 y2 y3 z0 z1 z2 z3 : Value} {t u : TypeId} (hn : W.heap.size ≤ b) (hw : w.heap[b]? = some (.cells #[y0, y1, y2, y3] t (0, 0)))
    (hn' : W.heap.size ≤ c) (hw' : w.heap[c]? = some (.cells #[z0, z1, z2, z3] u (0, 0))) (hbc : b ≠ c) (x0 x1 x2 x3 v0 v1 v2 v3 : Value) :
    Locs (put4 (put4 w b x0 x1 x2 x3) c v0 v1 v2 v3) ((c, #[v0, v1, v2, v3], u) :: (b, #[x0, x1, x2, x3], t) :: l) := by
  refine ⟨put4_same (by rw [put4_other _ _ _ _ _ _ _ (Ne.symm hbc)]; exact hw') _ _ _ _, (put4_other _ _ _ _ _ _ _ hbc).trans (put4_same hw _ _ _ _), Locs.others (hl.below hb) fun x hx => ?_⟩
  rw [put4_other _ _ _ _ _ _ _ (hl.old hn' x hx), put4_other _ _ _ _ _ _ _ (hl.old hn x hx)]
theorem Below.put4 {B : Nat} {a w : World} (h : Below B a w) {b : Nat} (hb : B ≤ b) (x0 x1 x2 x3 : Value) : Below B a (put4 w b x0 x1 x2 x3) :=
  (((h.setCell hb x0).setCell hb x1).setCell hb x2).setCell hb x3
theorem InExt.put4 {W w : World} {n : Nat} (h : InExt (fun b => b < n) W w) {b : Nat} (hb : n ≤ b) (x0 x1 x2 x3 : Value) : InExt (fun b => b < n) W (put4 w b x0 x1 x2 x3) :=
  (((h.setCell (p := ⟨b, 0, none⟩) (Nat.not_lt.2 hb) x0).setCell (p := ⟨b, 1, none⟩) (Nat.not_lt.2 hb) x1).setCell (p := ⟨b, 2, none⟩) (Nat.not_lt.2 hb) x2).setCell (p := ⟨b, 3, none⟩) (Nat.not_lt.2 hb) x3
/-- The region, its world held by what is known of it. -/
theorem wp_made {P : Program} {id : Nat} {Q : Exit → Act → World → Prop} {a : Act} {w0 w : World} {l : List (Nat × Array Value × TypeId)} {os : List Oper} (L : Locs w l) (B : Below w0.heap.size w0 w) (hm : P.follows .mixedOrders = true) (hB : softB .any os (os.map sd) = true)
    (h : ∀ W, Locs W l → Below w0.heap.size w0 W → wpSoft P W os.toArray (InExt (fun b => b < W.heap.size) W) (masks .any [] os) (Q .normal) os (os.map sd) 0 a (.soft noMade)) : (Code.region id os.toArray true).wp P Q a w :=
  wp_region_made hm hB (h w L B)
/-- .. and its end. -/
theorem sx_done {w0 w : World} {l : List (Nat × Array Value × TypeId)} (L : Locs w l) (B : Below w0.heap.size w0 w) (h : ∀ w', Locs w' l → Below w0.heap.size w0 w' → Q a w') : wpSoft P W ops (InExt S W) mk Q [] [] k a (.hard w) := fun w' e => by
  cases e
  exact h w L B
theorem Locs.ext {w w' : World} {l : List (Nat × Array Value × TypeId)} (h : Locs w l) (X : InExt (fun b => b < w.heap.size) w w') : Locs w' l := by
  refine Locs.others h fun x hx => ?_
  have hlt : x.1 < w.heap.size := by
    rcases Nat.lt_or_ge x.1 w.heap.size with h' | h'
    · exact h'
    · exact (h.old h' x hx rfl).elim
  exact X.old _ hlt
/-- A region that only reads and calls, its world held by what is known of it. -/
theorem wp_heldR {P : Program} {id : Nat} {Q : Exit → Act → World → Prop} {a : Act} {w0 w : World} {l : List (Nat × Array Value × TypeId)} {os : List Oper} (L : Locs w l) (B : Below w0.heap.size w0 w) (hm : P.follows .mixedOrders = true) (hB : mixB .any os (os.map hd) = true)
    (h : ∀ W w', Locs W l → InExt (fun b => b < W.heap.size) W w' → Below w0.heap.size w0 w' → wpMix P os.toArray (InExt (fun b => b < W.heap.size) W) (Q .normal) os (os.map hd) a w') : (Code.region id os.toArray true).wp P Q a w :=
  wp_region_held (fun b => b < w.heap.size) hm hB (h w w.drew L (InExt.refl _ _).drew B.drew)
theorem hx_done {P : Program} {ops : Array Oper} {Q : Act → World → Prop} {a : Act} {w0 W w : World} {l : List (Nat × Array Value × TypeId)} (L : Locs W l) (X : InExt (fun b => b < W.heap.size) W w) (B : Below w0.heap.size w0 w) (h : ∀ w', Locs w' l → Below w0.heap.size w0 w' → Q a w') {Z : World → Prop} {md : Oper → Nat} : wpMix P ops Z Q [] ([].map md) a w :=
  mix_nil (h w (L.ext X) B)
end
attribute [irreducible] wpSoft
end Go.Flo
