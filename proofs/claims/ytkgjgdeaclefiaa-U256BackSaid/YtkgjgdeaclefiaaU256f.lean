/-
  u256 at this translation: Div.
-/
import Derived.Test.YtkgjgdeaclefiaaU256e
import Derived.Test.YtkgjgdeaclefiaaNum3
namespace Go.Proofs.Ytkgjgdeaclefiaa
open Go Go.Proofs Go.RowKit Go.Flo

set_option maxHeartbeats 1000000 in
/-- Div by 0. -/
theorem div_zero (m : Nat) (w : World) :
    Calls Try.prog 75 #[uV m, uV 0] w fun e w' => e = .returned (.tuple #[uV 0, uV 0, .bool false]) ∧ Below w.heap.size w w' := by
  rw [← uV_zero]
  unfold uV
  generalize l0 m = a at *; generalize l1 m = b at *; generalize l2 m = c at *; generalize l3 m = d at *
  go_enter Try.func75, Try.ntmps75
  go_wp2
  refine bodyPost_ret (v := .tuple #[.agg #[.int .u64 0, .int .u64 0, .int .u64 0, .int .u64 0], .agg #[.int .u64 0, .int .u64 0, .int .u64 0, .int .u64 0], .bool false]) (by simp [results, Try.results75, go_sem]) rfl ⟨rfl, ?_⟩
  repeat' (first | (with_reducible exact Below.refl _ _) | (with_reducible assumption) | (with_reducible refine Below.drew ?_) | (with_reducible refine Below.alloc ?_ ?_ _) | (with_reducible refine Below.setCell ?_ ?_ _) | (with_reducible refine Flo.below_step ?_ (by assumption)) | (simp; done) | (simp; omega))

theorem Four0 : #[Value.int .u64 (l0 0), .int .u64 (l1 0), .int .u64 (l2 0), .int .u64 (l3 0)] = #[.int .u64 0, .int .u64 0, .int .u64 0, .int .u64 0] := by
  have e0 : l0 0 = 0 := by unfold l0; rfl
  have e1 : l1 0 = 0 := by unfold l1; rfl
  have e2 : l2 0 = 0 := by unfold l2; rfl
  have e3 : l3 0 = 0 := by unfold l3; rfl
  rw [e0, e1, e2, e3]

/-- What a round of Div finds in memory. -/
structure DivW (w0 wr : World) (B r k qq : Nat) : Prop where
  below : Below w0.heap.size w0 wr
  base : w0.heap.size ≤ B
  a : Four wr B 32 r
  b : Four wr (B + 1) 32 k
  x : Four wr (B + 1 + 1) 32 0
  y : Four wr (B + 1 + 1 + 1) 32 0
  q : Four wr (B + 1 + 1 + 1 + 1) 32 qq

/-- A round's head of Div. -/
def DivR (m k : Nat) (w : World) (n : Value) (wr : World) : Prop :=
  ∃ (v : Int) (s r qq : Nat), n = .int .i64 v ∧ (v + 1 = s ∨ (v < 0 ∧ s = 0)) ∧ DivS m k s r qq ∧ DivW w wr w.heap.size r k qq

theorem DivW.keep {w0 wr w1 : World} {r k qq : Nat} (h : DivW w0 wr w0.heap.size r k qq) (hb : Below wr.heap.size wr w1) : DivW w0 w1 w0.heap.size r k qq :=
  ⟨below_step h.below hb, h.base, h.a.below hb, h.b.below hb, h.x.below hb, h.y.below hb, h.q.below hb⟩
theorem DivW.drew {w0 wr : World} {r k qq : Nat} (h : DivW w0 wr w0.heap.size r k qq) : DivW w0 wr.drew w0.heap.size r k qq := h.keep (Below.refl _ _).drew
/-- What is left is written. -/
theorem DivW.setA {w0 wr : World} {r k qq : Nat} (h : DivW w0 wr w0.heap.size r k qq) (r' : Nat) :
    DivW w0 ((((wr.setCell ⟨w0.heap.size, 0, none⟩ (.int .u64 (l0 r'))).setCell ⟨w0.heap.size, 1, none⟩ (.int .u64 (l1 r'))).setCell ⟨w0.heap.size, 2, none⟩ (.int .u64 (l2 r'))).setCell ⟨w0.heap.size, 3, none⟩ (.int .u64 (l3 r'))) w0.heap.size r' k qq := by
  refine ⟨?_, h.base, Four.made h.a.row, ?_, ?_, ?_, ?_⟩
  · exact (((h.below.setCell (Nat.le_refl _) _).setCell (Nat.le_refl _) _).setCell (Nat.le_refl _) _).setCell (Nat.le_refl _) _
  · exact (((h.b.other (by first | (simp; done) | (simp; omega)) _).other (by first | (simp; done) | (simp; omega)) _).other (by first | (simp; done) | (simp; omega)) _).other (by first | (simp; done) | (simp; omega)) _
  · exact (((h.x.other (by first | (simp; done) | (simp; omega)) _).other (by first | (simp; done) | (simp; omega)) _).other (by first | (simp; done) | (simp; omega)) _).other (by first | (simp; done) | (simp; omega)) _
  · exact (((h.y.other (by first | (simp; done) | (simp; omega)) _).other (by first | (simp; done) | (simp; omega)) _).other (by first | (simp; done) | (simp; omega)) _).other (by first | (simp; done) | (simp; omega)) _
  · exact (((h.q.other (by first | (simp; done) | (simp; omega)) _).other (by first | (simp; done) | (simp; omega)) _).other (by first | (simp; done) | (simp; omega)) _).other (by first | (simp; done) | (simp; omega)) _
/-- A digit is written. -/
theorem DivW.setQ {w0 wr : World} {r k qq q' : Nat} (h : DivW w0 wr w0.heap.size r k qq) (j : Nat) (v : Value)
    (hq : (#[Value.int .u64 (l0 qq), .int .u64 (l1 qq), .int .u64 (l2 qq), .int .u64 (l3 qq)]).setIfInBounds j v = #[.int .u64 (l0 q'), .int .u64 (l1 q'), .int .u64 (l2 q'), .int .u64 (l3 q')]) :
    DivW w0 (wr.setCell ⟨w0.heap.size + 1 + 1 + 1 + 1, j, none⟩ v) w0.heap.size r k q' := by
  refine ⟨h.below.setCell (by first | (simp; done) | (simp; omega)) _, h.base, h.a.other (by first | (simp; done) | (simp; omega)) _, h.b.other (by first | (simp; done) | (simp; omega)) _, h.x.other (by first | (simp; done) | (simp; omega)) _, h.y.other (by first | (simp; done) | (simp; omega)) _, ⟨?_⟩⟩
  rw [heap_setCell_same _ _ j _ _ v h.q.row, hq]

theorem quad0 (qq t p : Nat) (ht : t = 0 + p) (hp : p < 64) :
    (#[Value.int .u64 (l0 qq), .int .u64 (l1 qq), .int .u64 (l2 qq), .int .u64 (l3 qq)]).setIfInBounds 0 (.int .u64 (bits .or .u64 (l0 qq) (IntKind.u64.wrap (2 ^ p)))) = #[.int .u64 (l0 (qq ||| 2 ^ t)), .int .u64 (l1 (qq ||| 2 ^ t)), .int .u64 (l2 (qq ||| 2 ^ t)), .int .u64 (l3 (qq ||| 2 ^ t))] := by
  have e := or_bit qq t 0 p (by omega)
  have n (i : Nat) (hi : i ≠ 0) := or_bit_ne qq t i 0 p (by omega) hp hi
  simp only [l0_li, l1_li, l2_li, l3_li, e]
  rw [n 1 (by decide), n 2 (by decide), n 3 (by decide)]
  rfl
theorem quad1 (qq t p : Nat) (ht : t = 64 + p) (hp : p < 64) :
    (#[Value.int .u64 (l0 qq), .int .u64 (l1 qq), .int .u64 (l2 qq), .int .u64 (l3 qq)]).setIfInBounds 1 (.int .u64 (bits .or .u64 (l1 qq) (IntKind.u64.wrap (2 ^ p)))) = #[.int .u64 (l0 (qq ||| 2 ^ t)), .int .u64 (l1 (qq ||| 2 ^ t)), .int .u64 (l2 (qq ||| 2 ^ t)), .int .u64 (l3 (qq ||| 2 ^ t))] := by
  have e := or_bit qq t 1 p (by omega)
  have n (i : Nat) (hi : i ≠ 1) := or_bit_ne qq t i 1 p (by omega) hp hi
  simp only [l0_li, l1_li, l2_li, l3_li, e]
  rw [n 0 (by decide), n 2 (by decide), n 3 (by decide)]
  rfl
theorem quad2 (qq t p : Nat) (ht : t = 128 + p) (hp : p < 64) :
    (#[Value.int .u64 (l0 qq), .int .u64 (l1 qq), .int .u64 (l2 qq), .int .u64 (l3 qq)]).setIfInBounds 2 (.int .u64 (bits .or .u64 (l2 qq) (IntKind.u64.wrap (2 ^ p)))) = #[.int .u64 (l0 (qq ||| 2 ^ t)), .int .u64 (l1 (qq ||| 2 ^ t)), .int .u64 (l2 (qq ||| 2 ^ t)), .int .u64 (l3 (qq ||| 2 ^ t))] := by
  have e := or_bit qq t 2 p (by omega)
  have n (i : Nat) (hi : i ≠ 2) := or_bit_ne qq t i 2 p (by omega) hp hi
  simp only [l0_li, l1_li, l2_li, l3_li, e]
  rw [n 0 (by decide), n 1 (by decide), n 3 (by decide)]
  rfl
theorem quad3 (qq t p : Nat) (ht : t = 192 + p) (hp : p < 64) :
    (#[Value.int .u64 (l0 qq), .int .u64 (l1 qq), .int .u64 (l2 qq), .int .u64 (l3 qq)]).setIfInBounds 3 (.int .u64 (bits .or .u64 (l3 qq) (IntKind.u64.wrap (2 ^ p)))) = #[.int .u64 (l0 (qq ||| 2 ^ t)), .int .u64 (l1 (qq ||| 2 ^ t)), .int .u64 (l2 (qq ||| 2 ^ t)), .int .u64 (l3 (qq ||| 2 ^ t))] := by
  have e := or_bit qq t 3 p (by omega)
  have n (i : Nat) (hi : i ≠ 3) := or_bit_ne qq t i 3 p (by omega) hp hi
  simp only [l0_li, l1_li, l2_li, l3_li, e]
  rw [n 0 (by decide), n 1 (by decide), n 2 (by decide)]
  rfl

set_option maxHeartbeats 600000 in
theorem div_some (m k : Nat) (hm : m < top) (hk : k < top) (h0 : k ≠ 0) (w : World) :
    Calls Try.prog 75 #[uV m, uV k] w fun e w' => e = .returned (.tuple #[uV (m / k), uV (m % k), .bool true]) ∧ Below w.heap.size w w' := by
  have ne : (l0 k == 0 && (l1 k == 0 && (l2 k == 0 && l3 k == 0))) = false := by
    have := (is4_of hk).eq
    by_cases h : l0 k = 0 ∧ l1 k = 0 ∧ l2 k = 0 ∧ l3 k = 0
    · obtain ⟨h1, h2, h3, h4⟩ := h; rw [h1, h2, h3, h4] at this; omega
    · simp; omega
  have lm := lenN_top hm
  have lk := lenN_top hk
  have Lm := Lib.hid (len_c m hm)
  have Lk := Lib.hid (len_c k hk)
  have H0 := Lib.hid h0
  have Hm := Lib.hid hm
  have Hk := Lib.hid hk
  clear hm hk h0
  go_enter Try.func75, Try.ntmps75
  go_wp2
  (refine Flo.wp_region_held ((fun b => b < w.heap.size + 5)) (by kernel_rfl) (by decide +kernel) ?_; repeat (first | (refine Flo.au_skip (by exact rfl) (by exact rfl) ?_; simp only [Act.put, List.setIfInBounds_toArray, List.set_cons_zero, List.set_cons_succ]) | (refine Flo.hx_free (by exact rfl) (by exact rfl) (by exact rfl) ?_; intro K hK; go_big_quiet_op; go_big_quiet_on) | (refine Flo.au_move (by exact rfl) (by exact rfl) ?_; intro K hK; go_wp2_with ((go_at_call 69; (first | (with_reducible refine (Lm.out _).mono ?_) | (with_reducible refine (Lk.out _).mono ?_)); rintro e w1 ⟨rfl, hb⟩; obtain ⟨hc, hf, hz⟩ := bcell hb)); refine ⟨(by repeat' (first | (with_reducible assumption) | (with_reducible exact InExt.refl _ _) | (with_reducible refine InExt.drew ?_) | (with_reducible refine InExt.alloc ?_ ?_ _) | (with_reducible refine InExt.setCell ?_ ?_ _) | (with_reducible refine InExt.below ?_ ?_ (by assumption)) | (simp; done) | (simp; omega))), ?_⟩) | (refine Flo.mix_nil ?_)))
  go_wp2
  rename_i w1' hb1 _ _ _
  have hW0 : DivW w w1 w.heap.size m k 0 := by
    refine ⟨?_, Nat.le_refl _, ?_, ?_, ?_, ?_, ?_⟩
    · repeat' (first | (with_reducible exact Below.refl _ _) | (with_reducible assumption) | (with_reducible refine Below.drew ?_) | (with_reducible refine Below.alloc ?_ ?_ _) | (with_reducible refine Below.setCell ?_ ?_ _) | (with_reducible refine Flo.below_step ?_ (by assumption)) | (simp; done) | (simp; omega))
    all_goals refine Four.below (Four.below ⟨?_⟩ hb1) hb
    all_goals try rw [Four0]
    all_goals
      (simp only [heap_drew, Flo.heap_alloc_get, World.size_alloc]; repeat (first | rw [if_pos (by first | trivial | omega)] | rw [if_neg (by omega)]))
  clear hb1 hb hc hf hz
  have HW0 := Lib.hid hW0
  clear hW0
  go_loopw [8] (fun n wr => DivR m k w n wr) (fun n _ => (intOf n + 1).toNat)
  case atStart =>
    exact ⟨_, _, m, 0, rfl, by omega, DivS.start H0.out Hm.out Hk.out, HW0.out⟩
  case round =>
    obtain ⟨v, s, r, qq, rfl, hv, hS, hW⟩ := hrel
    have HV := Lib.hid hv
    have HS := Lib.hid hS
    have HW := Lib.hid hW
    by_cases hneg : v < 0
    · obtain ⟨a0, a1, a2, a3, af⟩ := hW.a.cells
      obtain ⟨q0, q1, q2, q3, qf⟩ := hW.q.cells
      obtain ⟨x0, x1, x2, x3, xf⟩ := hW.x.cells
      obtain ⟨y0, y1, y2, y3, yf⟩ := hW.y.cells
      clear hv hS hW
      go_wp2
      (refine Flo.wp_region_held ((fun b => b = w.heap.size ∨ b = w.heap.size + 1 + 1 + 1 + 1)) (by kernel_rfl) (by decide +kernel) ?_; repeat (first | (refine Flo.au_skip (by exact rfl) (by exact rfl) ?_; simp only [Act.put, List.setIfInBounds_toArray, List.set_cons_zero, List.set_cons_succ]) | (refine Flo.hx_free (by exact rfl) (by exact rfl) (by exact rfl) ?_; intro K hK; go_big_quiet_op; go_big_quiet_on) | (refine Flo.au_move (by exact rfl) (by exact rfl) ?_; intro K hK; go_wp2_with (fail); refine ⟨(by repeat' (first | (with_reducible assumption) | (with_reducible exact InExt.refl _ _) | (with_reducible refine InExt.drew ?_) | (with_reducible refine InExt.alloc ?_ ?_ _) | (with_reducible refine InExt.setCell ?_ ?_ _) | (with_reducible refine InExt.below ?_ ?_ (by assumption)) | (simp; done) | (simp; omega))), ?_⟩) | (refine Flo.mix_nil ?_)))
      go_wp2
      have hz : s = 0 := by have := HV.out; omega
      have hb0 := HW.out.below
      subst hz
      obtain ⟨e1, e2⟩ := HS.out.done
      rw [← e1, ← e2]
      unfold uV
      refine bodyPost_ret (v := .tuple #[.agg #[.int .u64 (l0 qq), .int .u64 (l1 qq), .int .u64 (l2 qq), .int .u64 (l3 qq)], .agg #[.int .u64 (l0 r), .int .u64 (l1 r), .int .u64 (l2 r), .int .u64 (l3 r)], .bool true]) (by simp [results, Try.results75, go_sem, x0, x1, x2, x3, y0, y1, y2, y3]) rfl ⟨rfl, ?_⟩
      repeat' (first | (with_reducible exact Below.refl _ _) | (with_reducible assumption) | (with_reducible refine Below.drew ?_) | (with_reducible refine Below.alloc ?_ ?_ _) | (with_reducible refine Below.setCell ?_ ?_ _) | (with_reducible refine Flo.below_step ?_ (by assumption)) | (simp; done) | (simp; omega))
    · clear hv hS hW
      obtain ⟨t, rfl⟩ : ∃ t : Nat, v = t := ⟨v.toNat, by omega⟩
      have hs : s = t + 1 := by have := HV.out; omega
      subst hs
      obtain ⟨hup, t256⟩ := HS.out.up
      obtain ⟨rt, qt⟩ := HS.out.rt
      obtain ⟨d, hd⟩ : ∃ d, d = k * 2 ^ t := ⟨_, rfl⟩
      rw [← hd] at hup
      have LS : Hid (∀ w, Calls Try.prog 74 #[uV k, .int .i64 t] w fun e w' => e = .returned (.tuple #[uV d, .bool false]) ∧ Below w.heap.size w w') := fun w => by
        have := shl_c k Hk.out t w
        rw [Int.toNat_natCast, ← hd, Nat.mod_eq_of_lt hup, decide_eq_false (by omega)] at this
        exact this
      have LC := Lib.hid (cmp_c r d rt hup)
      have LB := Lib.hid (sub_c r d rt hup)
      obtain ⟨a0, a1, a2, a3, af⟩ := HW.out.a.cells
      obtain ⟨b0, b1, b2, b3, bf⟩ := HW.out.b.cells
      obtain ⟨q0, q1, q2, q3, qf⟩ := HW.out.q.cells
      have lta := HW.out.a.lt
      have ltb := HW.out.b.lt
      have ltq := HW.out.q.lt
      have Hup := Lib.hid hup
      have Hd := Lib.hid hd
      have Hrt := Lib.hid rt
      clear hup hd rt qt HV
      by_cases hge : d ≤ r
      · have hc0 : 0 ≤ cmpI r d := cmpI_ge hge
        have eb : (r + top - d) % top = r - d := sub_top Hrt.out hge
        have LB' : Hid (∀ w, Calls Try.prog 36 #[uV r, uV d] w fun e w' => e = .returned (.tuple #[uV (r - d), .bool (decide (r < d))]) ∧ Below w.heap.size w w') := by
          have := LB.out
          rw [eb] at this
          exact this
        obtain ⟨p, hp⟩ : ∃ p : Nat, p = t % 64 := ⟨_, rfl⟩
        have p1 : p < 64 := by omega
        have hp' : (t : Int) % 64 = p := by omega
        have ht : t = 64 * (t / 64) + p := by omega
        have hq : (t / 64 = 0 ∧ (t : Int) / 64 = 0) ∨ (t / 64 = 1 ∧ (t : Int) / 64 = 1) ∨ (t / 64 = 2 ∧ (t : Int) / 64 = 2) ∨ (t / 64 = 3 ∧ (t : Int) / 64 = 3) := by omega
        have Hge := Lib.hid hge
        have Ht := Lib.hid ht
        clear eb LB hp hge ht
        rcases hq with ⟨hq, hqi⟩ | ⟨hq, hqi⟩ | ⟨hq, hqi⟩ | ⟨hq, hqi⟩
        all_goals
          have Hq := Lib.hid hq
          clear hq
          go_wp2_with (first | (go_at_call 74; (with_reducible refine (LS.out _).mono ?_); rintro e w1 ⟨rfl, hb⟩; obtain ⟨hc, hf, hz⟩ := bcell hb; have la1 : w.heap.size < w1.heap.size := Nat.lt_of_lt_of_le lta hz; have lb1 := Nat.lt_of_lt_of_le ltb hz; have lq1 := Nat.lt_of_lt_of_le ltq hz; have lq1' := Nat.lt_of_succ_lt lq1) | (go_at_call 38; (with_reducible refine (LC.out _).mono ?_); rintro e w2 ⟨rfl, hb'⟩; obtain ⟨hc', hf', hz'⟩ := bcell hb'; rw [World.size_alloc] at hz'; have la2 := Nat.lt_trans la1 hz'; have lb2 := Nat.lt_trans lb1 hz'; have lq2 := Nat.lt_trans lq1 hz'; have ld2 : w1.heap.size < w2.heap.size := hz') | (go_at_call 36; (with_reducible refine (LB'.out _).mono ?_); rintro e w3 ⟨rfl, hb''⟩; obtain ⟨hc'', hf'', hz''⟩ := bcell hb''; have la3 := Nat.lt_of_lt_of_le la2 hz''; have lq3 := Nat.lt_of_lt_of_le lq2 hz''))
          refine ⟨⟨(t : Int) - 1, t, r - d, qq ||| 2 ^ t, rfl, .inl (by omega), ?_, ?_⟩, by simp only [intOf]; omega⟩
          · have h1 := HS.out
            have h2 := Hge.out
            rw [Hd.out] at h2 ⊢
            exact h1.yes h2
          · have h2 := Ht.out
            rw [Hq.out] at h2
            have hW' := (((HW.out.keep hb).keep ((Below.refl _ _).alloc (Nat.le_refl _) _)).keep hb').keep hb''
            first
              | ((with_reducible refine (hW'.setA (r - d)).setQ 0 _ ?_); exact quad0 qq t p (by omega) p1)
              | ((with_reducible refine (hW'.setA (r - d)).setQ 1 _ ?_); exact quad1 qq t p (by omega) p1)
              | ((with_reducible refine (hW'.setA (r - d)).setQ 2 _ ?_); exact quad2 qq t p (by omega) p1)
              | ((with_reducible refine (hW'.setA (r - d)).setQ 3 _ ?_); exact quad3 qq t p (by omega) p1)
      · have hc0 : cmpI r d = -1 := cmpI_lt (by omega)
        go_wp2_with (first | (go_at_call 74; (with_reducible refine (LS.out _).mono ?_); rintro e w1 ⟨rfl, hb⟩; obtain ⟨hc, hf, hz⟩ := bcell hb; have la1 : w.heap.size < w1.heap.size := Nat.lt_of_lt_of_le lta hz; have lb1 := Nat.lt_of_lt_of_le ltb hz; have lq1 := Nat.lt_of_lt_of_le ltq hz; have lq1' := Nat.lt_of_succ_lt lq1) | (go_at_call 38; (with_reducible refine (LC.out _).mono ?_); rintro e w2 ⟨rfl, hb'⟩; obtain ⟨hc', hf', hz'⟩ := bcell hb'; rw [World.size_alloc] at hz'; have la2 := Nat.lt_trans la1 hz'; have lb2 := Nat.lt_trans lb1 hz'; have lq2 := Nat.lt_trans lq1 hz'))
        exact ⟨⟨(t : Int) - 1, t, r, qq, rfl, .inl (by omega), HS.out.no (by have := Hd.out; omega), ((HW.out.keep hb).keep ((Below.refl _ _).alloc (Nat.le_refl _) _)).keep hb'⟩, by simp only [intOf]; omega⟩

/-- Div. -/
theorem div_c (m k : Nat) (hm : m < top) (hk : k < top) (w : World) :
    Calls Try.prog 75 #[uV m, uV k] w fun e w' => e = .returned (.tuple #[uV (if k = 0 then 0 else m / k), uV (if k = 0 then 0 else m % k), .bool (decide (k ≠ 0))]) ∧ Below w.heap.size w w' := by
  by_cases h : k = 0
  · subst h; exact div_zero m w
  · rw [if_neg h, if_neg h, decide_eq_true h]; exact div_some m k hm hk h w
end Go.Proofs.Ytkgjgdeaclefiaa
