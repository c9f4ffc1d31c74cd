/-
  Comparing two lists of bytes, two lists of events; their summaries.
  Conditions: none; each summary holds of the program's function.
-/
import Derived.Test.YtcibdpbblleafaaGreatDoorMoR
namespace Go.Sx
open Go Go.RowKit Tree

def rsB : List Sig := [tBool.sig]
def K9 : CnK := ⟨[(0, .bytes), (1, .bytes), (5, .int .i64)], []⟩
def K9a : CnK := ⟨[(0, .bytes), (1, .bytes)], []⟩
def cn9 (a b : List Int) (i : Int) : Cn := ⟨26, [(0, .bytes a), (1, .bytes b), (5, .int .i64 i)], []⟩
def cn9a (a b : List Int) : Cn := ⟨26, [(0, .bytes a), (1, .bytes b)], []⟩
noncomputable def p9 (l : List Nat) : Code := sub (bodyOf 9) l
theorem b9 : bodyOf 9 = pieces [p9 [0], p9 [1, 0]] (.seq (pieces [p9 [1, 1, 0, 0]] (.block 0 (.loop (p9 [1, 1, 0, 1, 0, 0])))) (p9 [1, 1, 1])) := by kernel_rfl
theorem t9a (a b : List Int) : (sxL (teng []) 100 [p9 [0], p9 [1, 0]] (entry 9 [tBytes.arg a, tBytes.arg b]) fun e s' => .leaf (obsL (teng []) K9a (fnOf 9) rsB e s')) =
    br ((a.length : Int) != (b.length : Int)) (leaf (.ret (some [tBool.arg false]))) (leaf (.go (some (cn9a a b)))) := by kernel_rfl
theorem t9b (a b : List Int) : (sxL (teng []) 100 [p9 [1, 1, 0, 0]] (cn9a a b).as fun e s' => .leaf (e, K9.dec s')) = leaf (.normal, some (cn9 a b 0)) := by kernel_rfl
theorem t9c (a b : List Int) (i : Int) : (sx (teng []) 100 (p9 [1, 1, 0, 1, 0, 0]) (cn9 a b i).as fun e s' => .leaf (obsL (teng []) K9 (fnOf 9) rsB e s')) =
    br (decide (i < (a.length : Int)))
      (need (decide (0 ≤ i)) (need (decide (i < (a.length : Int))) (need (decide (0 ≤ i)) (need (decide (i < (b.length : Int))) (br (pick i a != pick i b) (leaf (.ret (some [tBool.arg false]))) (leaf (.go (some (cn9 a b (IntKind.i64.wrap (i + 1)))))))))))
      (leaf (.out 0 (some (cn9 a b i)))) := by kernel_rfl
theorem t9d (a b : List Int) (i : Int) : (sx (teng []) 100 (p9 [1, 1, 1]) (cn9 a b i).as fun e s' => .leaf (obsR (teng []) (fnOf 9) rsB e s')) = leaf (some [tBool.arg true]) := by kernel_rfl
theorem take_succ_eq {α : Type} {a b : List α} {k : Nat} (h : a.take k = b.take k) (ha : k < a.length) (hb : k < b.length) (e : a[k] = b[k]) : a.take (k + 1) = b.take (k + 1) := by
  rw [List.take_succ_eq_append_getElem ha, List.take_succ_eq_append_getElem hb, h, e]

theorem pick_get {l : List Int} {k : Nat} (h : k < l.length) : pick (k : Int) l = l[k] := by
  simp [pick, h]

abbrev I9 (a b : List Int) (k : Nat) : Prop := k ≤ a.length ∧ a.take k = b.take k
theorem h9c (a b : List Int) (hl : a.length = b.length) (hs : a.length < 4611686018427387904) (k : Nat) (hk : I9 a b k) :
    Told (sx (teng []) 100 (p9 [1, 1, 0, 1, 0, 0]) (cn9 a b (k : Int)).as fun e s' => .leaf (obsL (teng []) K9 (fnOf 9) rsB e s'))
      (RoundO 0 (fun c => ∃ k' : Nat, I9 a b k' ∧ a.length - k' < a.length - k ∧ c = cn9 a b (k' : Int)) (fun c => (∃ i, c = cn9 a b i) ∧ decide (a = b) = true) (fun r => r = [tBool.arg (decide (a = b))])) := Told.rw (t9c a b _) (by
  refine ⟨fun h => ?_, fun h => ?_⟩
  · have hlt : k < a.length := by simpa using h
    refine ⟨by simp, by simpa using hlt, by simp, by simp; omega, fun h2 => ?_, fun h2 => ?_⟩
    · refine ⟨_, rfl, ?_⟩
      have : a ≠ b := fun e => by subst e; simp at h2
      simp [this]
    · refine ⟨_, rfl, k + 1, ⟨by omega, take_succ_eq hk.2 hlt (by omega) ?_⟩, by omega, ?_⟩
      · simp only [bne_eq_false_iff_eq] at h2
        rwa [pick_get hlt, pick_get (by omega)] at h2
      · rw [wrap_id (inR_i64.2 (by omega))]; rfl
  · have hge : k = a.length := by
      have := hk.1
      have h : ¬ ((k : Int) < (a.length : Int)) := by simpa using h
      omega
    refine ⟨rfl, _, rfl, ⟨_, rfl⟩, ?_⟩
    have := hk.2
    rw [hge, List.take_length, hl, List.take_length] at this
    simp [this])

def S9 : Summ := mkSumm [tBytes.sig, tBytes.sig] (sp2 tBytes tBytes fun a b => ([], [tBool.arg (decide (a = b))]))
theorem v9 (B : Base) (a b : List Int) (hok : OkAs [tBytes.arg a, tBytes.arg b]) : Gives tcx 9 (encArgs [tBytes.arg a, tBytes.arg b] 0) (s0 [tBytes.arg a, tBytes.arg b]) rsB [tBool.arg (decide (a = b))] := by
  have hs := (okBytes hok (v := a) (by simp)).2
  have hen := teng_ok B Good.nil
  have hl := teng_loc Good.nil
  refine gives_of (l := []) (by kernel_rfl) (by kernel_rfl) ?_
  rw [b9]
  refine Goes.piecesM (K := K9a) (fn := fnOf 9) (rs := rsB) (f := 100) (N := fun c => c = cn9a a b ∧ a.length = b.length) (Ret := fun r => r = [tBool.arg (decide (a = b))]) hen hl (Told.rw (t9a a b) ?_) ?_ (fun _ _ h1 h2 => Fin.ret h1 h2)
  · refine ⟨fun h => ⟨_, rfl, ?_⟩, fun h => ⟨_, rfl, rfl, ?_⟩⟩
    · have : a ≠ b := fun e => by subst e; simp at h
      simp [this]
    · have : (a.length : Int) = (b.length : Int) := by simpa using h
      omega
  · rintro c ⟨rfl, hlen⟩
    refine Goes.midSeq (K := K9) (fn := fnOf 9) (rs := rsB) (N := fun c => (∃ i, c = cn9 a b i) ∧ decide (a = b) = true) (Ret := fun r => r = [tBool.arg (decide (a = b))]) ?_ ?_ (fun _ _ h1 h2 => Fin.ret h1 h2)
    · refine Goes.preK hen hl (K := K9) (f := 100) (c := cn9 a b 0) (Told.rw (t9b a b) rfl) ?_
      exact Goes.blockLoop (fun k : Nat => cn9 a b (k : Int)) (I9 a b) (fun k => a.length - k) (f := 100) hen hl (fun k hk => h9c a b hlen hs k hk) 0 ⟨Nat.zero_le _, by simp⟩
    · rintro c ⟨⟨i, rfl⟩, he⟩
      rw [he]
      exact Goes.last hen hl (f := 100) (Told.rw (t9d a b i) rfl)
theorem o9 (B : Base) : SummOk tcx 9 S9 := summ2G (fun a b hok _ => v9 B a b hok) (by kernel_rfl)

/-! ### Events -/
def K10 : CnK := ⟨[(0, .evs), (1, .evs), (5, .int .i64)], []⟩
def K10a : CnK := ⟨[(0, .evs), (1, .evs)], []⟩
def cn10 (a b : List Ev) (i : Int) : Cn := ⟨26, [(0, .evs a), (1, .evs b), (5, .int .i64 i)], []⟩
def cn10a (a b : List Ev) : Cn := ⟨26, [(0, .evs a), (1, .evs b)], []⟩
noncomputable def p10 (l : List Nat) : Code := sub (bodyOf 10) l
theorem b10 : bodyOf 10 = pieces [p10 [0], p10 [1, 0]] (.seq (pieces [p10 [1, 1, 0, 0]] (.block 0 (.loop (p10 [1, 1, 0, 1, 0, 0])))) (p10 [1, 1, 1])) := by kernel_rfl
theorem t10a (a b : List Ev) : (sxL (teng []) 100 [p10 [0], p10 [1, 0]] (entry 10 [tEvs.arg a, tEvs.arg b]) fun e s' => .leaf (obsL (teng []) K10a (fnOf 10) rsB e s')) =
    br ((a.length : Int) != (b.length : Int)) (leaf (.ret (some [tBool.arg false]))) (leaf (.go (some (cn10a a b)))) := by kernel_rfl
theorem t10b (a b : List Ev) : (sxL (teng []) 100 [p10 [1, 1, 0, 0]] (cn10a a b).as fun e s' => .leaf (e, K10.dec s')) = leaf (.normal, some (cn10 a b 0)) := by kernel_rfl
theorem t10d (a b : List Ev) (i : Int) : (sx (teng []) 100 (p10 [1, 1, 1]) (cn10 a b i).as fun e s' => .leaf (obsR (teng []) (fnOf 10) rsB e s')) = leaf (some [tBool.arg true]) := by kernel_rfl

theorem Ev.eq_iff (x y : Ev) : x = y ↔ x.kind = y.kind ∧ x.at_ = y.at_ ∧ x.time = y.time := by
  obtain ⟨a, b, c⟩ := x
  obtain ⟨d, e, f⟩ := y
  simp
instance evDecEq : DecidableEq Ev := fun x y => decidable_of_iff _ (Ev.eq_iff x y).symm
def evEq (x y : Ev) : Bool := x.kind == y.kind && (x.at_ == y.at_ && (x.time == y.time && true))
theorem evEq_iff (x y : Ev) : evEq x y = true ↔ x = y := by
  rw [Ev.eq_iff]
  simp [evEq]
theorem t10c (a b : List Ev) (i : Int) : (sx (teng []) 100 (p10 [1, 1, 0, 1, 0, 0]) (cn10 a b i).as fun e s' => .leaf (obsL (teng []) K10 (fnOf 10) rsB e s')) =
    br (decide (i < (a.length : Int)))
      (need (decide (0 ≤ i)) (need (decide (i < (a.length : Int))) (need (decide (0 ≤ i)) (need (decide (i < (b.length : Int))) (br (!evEq (evAt a i) (evAt b i)) (leaf (.ret (some [tBool.arg false]))) (leaf (.go (some (cn10 a b (IntKind.i64.wrap (i + 1)))))))))))
      (leaf (.out 0 (some (cn10 a b i)))) := by kernel_rfl
theorem evAt_get {l : List Ev} {k : Nat} (h : k < l.length) : evAt l (k : Int) = l[k] := by
  simp [evAt, h]
theorem okEvs {l : List Arg} {v : List Ev} (h : OkAs l) (hm : tEvs.arg v ∈ l) : (∀ e ∈ v, InR .i64 e.kind ∧ InR .i64 e.at_ ∧ InR .u64 e.time) ∧ v.length < 4611686018427387904 := h _ hm (.evs v) (by simp [Ty.arg, tEvs])
abbrev I10 (a b : List Ev) (k : Nat) : Prop := k ≤ a.length ∧ a.take k = b.take k
theorem h10c (a b : List Ev) (hl : a.length = b.length) (hs : a.length < 4611686018427387904) (k : Nat) (hk : I10 a b k) :
    Told (sx (teng []) 100 (p10 [1, 1, 0, 1, 0, 0]) (cn10 a b (k : Int)).as fun e s' => .leaf (obsL (teng []) K10 (fnOf 10) rsB e s'))
      (RoundO 0 (fun c => ∃ k' : Nat, I10 a b k' ∧ a.length - k' < a.length - k ∧ c = cn10 a b (k' : Int)) (fun c => (∃ i, c = cn10 a b i) ∧ decide (a = b) = true) (fun r => r = [tBool.arg (decide (a = b))])) := Told.rw (t10c a b _) (by
  refine ⟨fun h => ?_, fun h => ?_⟩
  · have hlt : k < a.length := by simpa using h
    refine ⟨by simp, by simpa using hlt, by simp, by simp; omega, fun h2 => ?_, fun h2 => ?_⟩
    · refine ⟨_, rfl, ?_⟩
      have : a ≠ b := fun e => by
        subst e
        have := (evEq_iff (evAt a (k : Int)) (evAt a (k : Int))).2 rfl
        rw [this] at h2
        cases h2
      simp [this]
    · refine ⟨_, rfl, k + 1, ⟨by omega, take_succ_eq hk.2 hlt (by omega) ?_⟩, by omega, ?_⟩
      · have h3 : evEq (evAt a (k : Int)) (evAt b (k : Int)) = true := by simpa using h2
        rw [evEq_iff, evAt_get hlt, evAt_get (by omega)] at h3
        exact h3
      · rw [wrap_id (inR_i64.2 (by omega))]; rfl
  · have hge : k = a.length := by
      have := hk.1
      have h : ¬ ((k : Int) < (a.length : Int)) := by simpa using h
      omega
    refine ⟨rfl, _, rfl, ⟨_, rfl⟩, ?_⟩
    have := hk.2
    rw [hge, List.take_length, hl, List.take_length] at this
    simp [this])

def S10 : Summ := mkSumm [tEvs.sig, tEvs.sig] (sp2 tEvs tEvs fun a b => ([], [tBool.arg (decide (a = b))]))
theorem v10 (B : Base) (a b : List Ev) (hok : OkAs [tEvs.arg a, tEvs.arg b]) : Gives tcx 10 (encArgs [tEvs.arg a, tEvs.arg b] 0) (s0 [tEvs.arg a, tEvs.arg b]) rsB [tBool.arg (decide (a = b))] := by
  have hs := (okEvs hok (v := a) (by simp)).2
  have hen := teng_ok B Good.nil
  have hl := teng_loc Good.nil
  refine gives_of (l := []) (by kernel_rfl) (by kernel_rfl) ?_
  rw [b10]
  refine Goes.piecesM (K := K10a) (fn := fnOf 10) (rs := rsB) (f := 100) (N := fun c => c = cn10a a b ∧ a.length = b.length) (Ret := fun r => r = [tBool.arg (decide (a = b))]) hen hl (Told.rw (t10a a b) ?_) ?_ (fun _ _ h1 h2 => Fin.ret h1 h2)
  · refine ⟨fun h => ⟨_, rfl, ?_⟩, fun h => ⟨_, rfl, rfl, ?_⟩⟩
    · have : a ≠ b := fun e => by subst e; simp at h
      simp [this]
    · have : (a.length : Int) = (b.length : Int) := by simpa using h
      omega
  · rintro c ⟨rfl, hlen⟩
    refine Goes.midSeq (K := K10) (fn := fnOf 10) (rs := rsB) (N := fun c => (∃ i, c = cn10 a b i) ∧ decide (a = b) = true) (Ret := fun r => r = [tBool.arg (decide (a = b))]) ?_ ?_ (fun _ _ h1 h2 => Fin.ret h1 h2)
    · refine Goes.preK hen hl (K := K10) (f := 100) (c := cn10 a b 0) (Told.rw (t10b a b) rfl) ?_
      exact Goes.blockLoop (fun k : Nat => cn10 a b (k : Int)) (I10 a b) (fun k => a.length - k) (f := 100) hen hl (fun k hk => h10c a b hlen hs k hk) 0 ⟨Nat.zero_le _, by simp⟩
    · rintro c ⟨⟨i, rfl⟩, he⟩
      rw [he]
      exact Goes.last hen hl (f := 100) (Told.rw (t10d a b i) rfl)
theorem o10 (B : Base) : SummOk tcx 10 S10 := summ2G (fun a b hok _ => v10 B a b hok) (by kernel_rfl)
end Go.Sx
