/-
  A list of events behind another, as the library's function joins them; its summary.
  Conditions: none; the summary holds of the program's function.
-/
import Derived.Test.YtcibdpbblleafaaGreatDoorMoO
import Derived.Test.YtcibdpbblleafaaGreatDoorSxQ
namespace Go.Sx
open Go Go.RowKit Tree

def S62 : Summ := fun xs M R rid =>
  match xs with
  | [.sl id 2 2] => (match M id with
    | some (.cells _ [.r q, .sl id2 1 1]) => bif Nat.beq id id2 then none else (match R q, M id2 with
      | some { c := .evs l, own := _ }, some (.cells _ cs) => (match evOf? cs with
        | some v => some { v := .r rid, needs := [decide (l.length < 900000)], rd := [id, id2], rdR := [q], wr := [], nb := none, nr := [⟨.evs (l ++ [v]), false⟩], only := none }
        | none => none)
      | _, _ => none)
    | _ => none)
  | _ => none

theorem S62_loc : SummLoc S62 := by
  intro xs M M' R R' rid e h hm hr
  unfold S62 at h ⊢
  split at h <;> try (cases h; done)
  rename_i id
  split at h <;> try (cases h; done)
  rename_i ty q id2 hM
  have hne : Nat.beq id id2 = false := by
    cases hb : Nat.beq id id2 with
    | true => rw [hb] at h; cases h
    | false => rfl
  rw [hne] at h
  simp only [cond_false] at h
  split at h <;> try (cases h; done)
  rename_i l o ty2 cs hR hM2
  have h3 := h
  split at h <;> try (cases h; done)
  have h1 : e.rd = [id, id2] := by cases h; rfl
  have h2 : e.rdR = [q] := by cases h; rfl
  rw [hm id (by rw [h1]; simp), hM]
  show (bif Nat.beq id id2 then none else _) = _
  rw [hne, hr q (by rw [h2]; simp), hm id2 (by rw [h1]; simp), hR, hM2]
  exact h3

def evSV (v : Ev) : List SV := [.i .i64 v.kind, .i .i64 v.at_, .i .u64 v.time]
def s62 (ty ty2 : TypeId) (l : List Ev) (v : Ev) : AS :=
  { T := fun _ => .u, M := fun i => bif Nat.beq i 0 then some (.cells ty [.r 0, .sl 1 1 1]) else bif Nat.beq i 1 then some (.cells ty2 (evSV v)) else none, R := fun i => bif Nat.beq i 0 then some ⟨.evs l, false⟩ else none, nM := foreign, nR := 1, nT := 0 }
noncomputable def rf62 (ty ty2 : TypeId) (l : List Ev) (v : Ev) : Tree (Option (List Arg)) := runFn (teng []) 100 62 [.sl 0 2 2] (s62 ty ty2 l v) (obsRes [tEvs.sig])

def ca (l : List Ev) : Int := IntKind.i64.wrap (0 + (l.length : Int))
def cb (l : List Ev) : Int := IntKind.i64.wrap (ca l + ((1 : Nat) : Int))
def cc (l : List Ev) : Int := IntKind.i64.wrap (cb l - IntKind.i64.wrap (0 - 0))
abbrev zs62 (l : List Ev) : List Ev := List.replicate (cc l).toNat ⟨0, 0, 0⟩
theorem t62 (ty ty2 : TypeId) (l : List Ev) (v : Ev) : rf62 ty ty2 l v =
    br (decide (ca l < 0)) fail (br (decide (cb l < 0)) fail (br (decide (cb l < 0)) fail (br (decide (cc l > 0))
      (need (decide (0 < cc l)) (need (decide (cc l < 1000000)) (need (decide ((0 : Int) ≤ 0)) (need (decide ((0 : Int) ≤ ((zs62 l).length : Int))) (need (decide (((zs62 l).take 0).length < 1000000)) (need (decide (l.length < 1000000))
        (need (decide (((zs62 l).take 0 ++ l).length < 1000000)) (leaf (some [tEvs.arg (((zs62 l).take 0 ++ l) ++ [v])])))))))))
      fail))) := by kernel_rfl

theorem cc_eq {l : List Ev} (h : l.length < 900000) : ca l = (l.length : Int) ∧ cb l = (l.length : Int) + 1 ∧ cc l = (l.length : Int) + 1 := by
  have h1 : ca l = (l.length : Int) := by
    unfold ca; rw [Int.zero_add, wrap_id (inR_i64.2 (by omega))]
  have h2 : cb l = (l.length : Int) + 1 := by
    unfold cb; rw [h1]; exact wrap_id (inR_i64.2 (by omega))
  refine ⟨h1, h2, ?_⟩
  unfold cc
  rw [h2, show IntKind.i64.wrap (0 - 0) = 0 from by decide, Int.sub_zero]
  exact wrap_id (inR_i64.2 (by omega))

theorem h62 (ty ty2 : TypeId) (l : List Ev) (v : Ev) (h : l.length < 900000) : Says (rf62 ty ty2 l v) (· = some [tEvs.arg (l ++ [v])]) := ⟨by
  rw [t62]
  obtain ⟨h1, h2, h3⟩ := cc_eq h
  rw [h1, h2, h3]
  refine ⟨fun h => absurd h (by simp <;> omega), fun _ => ⟨fun h => absurd h (by simp <;> omega), fun _ => ⟨fun h => absurd h (by simp <;> omega), fun _ => ⟨fun _ => ⟨by simp <;> omega, by simp <;> omega, by simp, by simp <;> omega, by simp, by simp <;> omega, by simp <;> omega, ?_⟩, fun h => absurd h (by simp <;> omega)⟩⟩⟩⟩
  show _ = _
  rfl⟩

theorem o62 (B : Base) : SummOk tcx 62 S62 := by
  refine ⟨hasBody_spec (by kernel_rfl), ?_⟩
  intro W0 E M R w xs vs id rid e hg hs hnd hvs hm hfr
  unfold S62 at hs
  split at hs <;> try (cases hs; done)
  rename_i i1
  split at hs <;> try (cases hs; done)
  rename_i ty q i2 hM
  have hne : Nat.beq i1 i2 = false := by
    cases hb : Nat.beq i1 i2 with
    | true => rw [hb] at hs; cases hs
    | false => rfl
  rw [hne] at hs
  simp only [cond_false] at hs
  split at hs <;> try (cases hs; done)
  rename_i l o ty2 cs hR hM2
  split at hs <;> try (cases hs; done)
  rename_i ev hev
  cases hs
  have hne : i1 ≠ i2 := fun e => by subst e; rw [Nat.beq_refl] at hne; cases hne
  have hlen : l.length < 900000 := by simpa using hnd (decide (l.length < 900000)) (by simp)
  obtain ⟨x, r1, rfl, hx, hr1⟩ := VL.cons.1 hvs
  have hnil := VL.nil.1 hr1
  subst hnil
  simp only [V] at hx
  obtain ⟨b, hb, rfl⟩ := hx
  obtain ⟨b', hb', vs2, k1, k2⟩ := hm.blk hM
  rw [hb] at hb'; cases hb'
  obtain ⟨v1, r2, rfl, hv1, hr2⟩ := VL.cons.1 k2
  obtain ⟨v2, r3, rfl, hv2, hr3⟩ := VL.cons.1 hr2
  have hnil := VL.nil.1 hr3
  subst hnil
  simp only [V] at hv1 hv2
  obtain ⟨b2, hb2, rfl⟩ := hv2
  obtain ⟨b2', hb2', vs3, j1, j2⟩ := hm.blk hM2
  rw [hb2] at hb2'; cases hb2'
  obtain ⟨rfl, hevr⟩ := evOf_V hev j2
  have hbb : b ≠ b2 := fun e => hne (hm.inj hb (by rw [e]; exact hb2))
  obtain ⟨g1, g2⟩ := row_good hm hR hv1.1
  let E1 : Env := { ρ := fun i => bif Nat.beq i 0 then some b else bif Nat.beq i 1 then some b2 else none, σ := fun i => bif Nat.beq i 0 then some v1 else none, ph := fun c => Bad E c ∧ c ≠ b ∧ c ≠ b2, pw := w }
  have hρ : ∀ {i c}, E1.ρ i = some c → (i = 0 ∧ c = b) ∨ (i = 1 ∧ c = b2) := by
    intro i c hi
    simp only [E1] at hi
    cases h0 : Nat.beq i 0 with
    | true => rw [h0] at hi; cases hi; exact .inl ⟨Nat.eq_of_beq_eq_true h0, rfl⟩
    | false =>
      rw [h0] at hi
      cases h1 : Nat.beq i 1 with
      | true => rw [h1] at hi; cases hi; exact .inr ⟨Nat.eq_of_beq_eq_true h1, rfl⟩
      | false => rw [h1] at hi; cases hi
  have bad1 : Bad E b := .inr ⟨i1, hb⟩
  have bad2 : Bad E b2 := .inr ⟨i2, hb2⟩
  have hm1 : MemR w E1 (s62 ty ty2 l ev).M (s62 ty ty2 l ev).R w := by
    refine ⟨Below.refl _ _, fun {i j c} hi hj => ?_, fun {i c} hi => ?_, fun {i k'} hi => ?_, fun {r x} hr => ?_, fun c hc => ?_, fun hi hc => ?_, fun c hc => rfl⟩
    · rcases hρ hi with ⟨rfl, rfl⟩ | ⟨rfl, rfl⟩ <;> rcases hρ hj with ⟨rfl, e⟩ | ⟨rfl, e⟩ <;> first | rfl | exact absurd e hbb | exact absurd e.symm hbb
    · rcases hρ hi with ⟨rfl, rfl⟩ | ⟨rfl, rfl⟩
      · exact ⟨fun h8 => absurd h8 (by decide), (hm.own hb).2⟩
      · exact ⟨fun h8 => absurd h8 (by decide), (hm.own hb2).2⟩
    · simp only [s62] at hi
      cases h0 : Nat.beq i 0 with
      | true =>
        rw [h0] at hi; cases hi
        have := Nat.eq_of_beq_eq_true h0
        subst this
        exact ⟨b, rfl, _, k1, VL.cons'.2 ⟨by simp only [V]; exact ⟨rfl, hv1.2⟩, VL.cons'.2 ⟨by simp only [V]; exact ⟨b2, rfl, rfl⟩, VL.nil.2 rfl⟩⟩⟩
      | false =>
        rw [h0] at hi
        cases h1 : Nat.beq i 1 with
        | true =>
          rw [h1] at hi; cases hi
          have := Nat.eq_of_beq_eq_true h1
          subst this
          exact ⟨b2, rfl, _, j1, VL.cons'.2 ⟨by simp only [V]; exact ⟨trivial, hevr.1⟩, VL.cons'.2 ⟨by simp only [V]; exact ⟨trivial, hevr.2.1⟩, VL.cons'.2 ⟨by simp only [V]; exact ⟨trivial, hevr.2.2⟩, VL.nil.2 rfl⟩⟩⟩⟩
        | false => rw [h1] at hi; cases hi
    · simp only [s62] at hr
      cases h0 : Nat.beq r 0 with
      | false => rw [h0] at hr; cases hr
      | true =>
        rw [h0] at hr; cases hr
        have := Nat.eq_of_beq_eq_true h0
        subst this
        refine ⟨v1, rfl, g1, fun c hc => ⟨fun hp => g2 c hc hp.1, fun i hi => ?_⟩, fun ho => by cases ho⟩
        rcases hρ hi with ⟨_, rfl⟩ | ⟨_, rfl⟩
        · exact g2 _ hc bad1
        · exact g2 _ hc bad2
    · rcases hc.1 with hc | ⟨i, hi⟩
      · exact hm.ph c hc
      · exact (hm.own hi).2
    · rcases hρ hi with ⟨_, rfl⟩ | ⟨_, rfl⟩
      · exact hc.2.1 rfl
      · exact hc.2.2 rfl
  have hv1' : VL E1 [.sl 0 2 2] [.slice (some ⟨b, 0, none⟩) 2 2] := VL.cons'.2 ⟨by simp only [V]; exact ⟨b, rfl, rfl⟩, VL.nil.2 rfl⟩
  have hg1 : GlobOk (teng []).cx w := by
    rw [teng_cx]
    intro g' cs' hq'
    obtain ⟨vs', ty', fr, k1, k2⟩ := hg g' cs' hq'
    exact ⟨vs', ty', fr, (hm.below.block g' (Array.getElem?_eq_some_iff.1 k1).1).trans k1, k2⟩
  have hfr1 : Fresh E1 foreign 1 := by
    refine ⟨fun i hi => ?_, fun r hr => ?_⟩
    · cases h0 : E1.ρ i with
      | none => rfl
      | some c => rcases hρ h0 with ⟨rfl, _⟩ | ⟨rfl, _⟩ <;> exact absurd hi (by decide)
    · simp only [E1]
      cases h0 : Nat.beq r 0 with
      | true => have := Nat.eq_of_beq_eq_true h0; omega
      | false => rfl
  have hsays : Says (runFn (teng []) 100 62 [.sl 0 2 2] (s62 ty ty2 l ev) (obsRes [tEvs.sig])) (· = some [tEvs.arg (l ++ [ev])]) := h62 ty ty2 l ev hlen
  have hcalls := runFn_says (teng_ok B Good.nil) (teng_loc Good.nil) hg1 hsays hv1' hm1 hfr1
  rw [teng_cx] at hcalls
  refine Calls.mono hcalls ?_
  intro en' w' hh
  cases en' with
  | panicked => exact hh.elim
  | outgrown => exact hh.elim
  | returned v =>
    obtain ⟨sv, s', E', hle, hv, hm', hp⟩ := hh
    obtain ⟨vals', q1, q2⟩ := decRes_V hm' hp hv
    have hsub : ∀ c, Bad E c → Bad E' c := fun c hc => by
      by_cases h1 : c = b
      · subst h1; exact .inr ⟨0, hle.ρ (show E1.ρ 0 = some c from rfl)⟩
      · by_cases h2 : c = b2
        · subst h2; exact .inr ⟨1, hle.ρ (show E1.ρ 1 = some c from rfl)⟩
        · refine .inl ?_
          rw [hle.ph]
          exact ⟨hc, h1, h2⟩
    have hbad : RowsAt w' (Bad E) vals' (rowsArgs [tEvs.arg (l ++ [ev])]) := by
      have : ∀ (vs : List Value) (cs : List RowC), RowsAt w' (Bad E') vs cs → RowsAt w' (Bad E) vs cs := by
        intro vs
        induction vs with
        | nil => intro cs h; exact h
        | cons v vs ih =>
          rintro cs ⟨c, cs', rfl, g1, g2, g3⟩
          exact ⟨c, cs', rfl, g1, fun b hb hbad => g2 b hb (hsub _ hbad), ih _ g3⟩
      exact this _ _ q1
    have hl := hbad.length
    have hgrow := hm.grow hm'.below
    obtain ⟨p1, p2⟩ := MemR.addRows (n := rid) hgrow hbad (fun j hj => hfr j (Nat.lt_of_lt_of_le hj (by rw [hl]; show 1 ≤ 8; decide)))
    obtain ⟨r1, r2, r3, r4⟩ := rowedL_spec vals' E rid
    refine ⟨rowedL E rid vals', p1, fun i _ => by rw [r1], fun r hr => r3 r (by
      have h8 : vals'.length ≤ 8 := by rw [hl]; show 1 ≤ 8; decide
      have : rowsEach = 8 := rfl
      omega), ?_, ?_⟩
    · exact q2 _ rid r4
    · exact p2
end Go.Sx
