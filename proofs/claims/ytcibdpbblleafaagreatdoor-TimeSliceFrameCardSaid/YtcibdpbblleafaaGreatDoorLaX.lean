/-
  Several texts joined into one (a program joined them): The plain law, first part: bits, what an instruction of a guest leaves alone. / The plain law, second part: one step of a host that runs a guest; steps until one traps. / The plain law, third part: what the handler keeps of a virtual CPU; the window of a guest. / The plain law, fourth part: a time slice. / The plain law, last part: the law's guard, read.
  Conditions: as each part says.
-/
import Derived.Test.YtcibdpbblleafaaGreatDoorMoY
/-
  The plain law, first part: bits, what an instruction of a guest leaves alone.
  Conditions: none; lemmas on numbers and lists.
-/
section
namespace Go.Sx
open Go Go.RowKit

theorem bif_ind {α : Type} {P : α → Prop} {c : Bool} {x y : α} (h1 : c = true → P x) (h2 : c = false → P y) : P (bif c then x else y) := by
  cases c with
  | true => exact h1 rfl
  | false => exact h2 rfl

theorem u32_wrap (v : Int) : 0 ≤ IntKind.u32.wrap v ∧ IntKind.u32.wrap v ≤ 4294967295 := inR_u32.1 (wrap_InR .u32 v)
theorem u64_wrap (v : Int) : 0 ≤ IntKind.u64.wrap v ∧ IntKind.u64.wrap v ≤ 18446744073709551615 := inR_u64.1 (wrap_InR .u64 v)
theorem u32_id {v : Int} (h0 : 0 ≤ v) (h1 : v ≤ 4294967295) : IntKind.u32.wrap v = v := wrap_id (inR_u32.2 ⟨h0, h1⟩)
theorem u64_id {v : Int} (h0 : 0 ≤ v) (h1 : v ≤ 18446744073709551615) : IntKind.u64.wrap v = v := wrap_id (inR_u64.2 ⟨h0, h1⟩)
theorem i64_id {v : Int} (h0 : -9223372036854775808 ≤ v) (h1 : v ≤ 9223372036854775807) : IntKind.i64.wrap v = v := wrap_id (inR_i64.2 ⟨h0, h1⟩)

/-! ### Bits -/
theorem ofInt_wrap32 (b : BitVec 32) : BitVec.ofInt 32 (IntKind.u32.wrap (b.toNat : Int)) = b := by
  rw [u32_id (by omega) (by have := b.isLt; omega)]
  simp

theorem band32 (a b : Int) : band .u32 a b = IntKind.u32.wrap ((BitVec.ofInt 32 a &&& BitVec.ofInt 32 b : BitVec 32).toNat : Int) := rfl
theorem bandn32 (a b : Int) : bandn .u32 a b = IntKind.u32.wrap ((BitVec.ofInt 32 a &&& ~~~BitVec.ofInt 32 b : BitVec 32).toNat : Int) := rfl
theorem bor64 (a b : Int) : bor .u64 a b = IntKind.u64.wrap ((BitVec.ofInt 64 a ||| BitVec.ofInt 64 b : BitVec 64).toNat : Int) := rfl

theorem band_bandn (x : Int) : band .u32 (bandn .u32 x 2) 2 = 0 := by
  rw [band32, bandn32, ofInt_wrap32]
  have : (BitVec.ofInt 32 x &&& ~~~BitVec.ofInt 32 2) &&& BitVec.ofInt 32 2 = 0#32 := by
    rw [BitVec.and_assoc]
    have h : ~~~BitVec.ofInt 32 2 &&& BitVec.ofInt 32 2 = 0#32 := by decide
    rw [h, BitVec.and_zero]
  rw [this]
  decide

theorem stIn_ie (s : Int) : band .u32 (stIn s) 2 = 0 := by
  unfold stIn
  refine bif_ind (P := fun x => band .u32 x 2 = 0) (fun _ => bif_ind (P := fun x => band .u32 x 2 = 0) (fun _ => band_bandn _) (fun _ => band_bandn _)) (fun _ => bif_ind (P := fun x => band .u32 x 2 = 0) (fun _ => band_bandn _) (fun _ => band_bandn _))

theorem bor_u32 (a b : Int) : 0 ≤ bor .u32 a b := (u32_wrap _).1
theorem bor_u64 (a b : Int) : 0 ≤ bor .u64 a b ∧ bor .u64 a b ≤ 18446744073709551615 := u64_wrap _

theorem bor_hi_lo {hi lo : Nat} (h1 : hi < 4294967296) (h2 : lo < 4294967296) : bor .u64 ((hi * 4294967296 : Nat) : Int) (lo : Int) = ((hi * 4294967296 + lo : Nat) : Int) := by
  rw [bor64, BitVec.ofInt_natCast, BitVec.ofInt_natCast, BitVec.toNat_or, BitVec.toNat_ofNat, BitVec.toNat_ofNat, Nat.mod_eq_of_lt (by omega), Nat.mod_eq_of_lt (by omega)]
  have e3 : hi * 4294967296 ||| lo = hi * 4294967296 + lo := by
    have := Nat.shiftLeft_add_eq_or_of_lt (i := 32) (b := lo) (by omega) hi
    rw [Nat.shiftLeft_eq] at this
    exact this.symm
  rw [e3]
  exact u64_id (by omega) (by omega)

/-- An alarm, laid into two registers, is read again. -/
theorem alarm_read {al : Int} (h0 : 0 ≤ al) (h1 : al ≤ 18446744073709551615) :
    bor .u64 (shlI .u64 (IntKind.u64.wrap (IntKind.u32.wrap (shrI .u64 al 32))) 32) (IntKind.u64.wrap (IntKind.u32.wrap al)) = al := by
  obtain ⟨n, rfl⟩ : ∃ n : Nat, al = (n : Int) := ⟨al.toNat, by omega⟩
  have hw : ∀ m : Nat, IntKind.u32.wrap (m : Int) = ((m % 4294967296 : Nat) : Int) := fun m => by
    simp only [IntKind.wrap, IntKind.bits, IntKind.signed]
    simp
  have hs : shrI .u64 (n : Int) 32 = ((n / 4294967296 : Nat) : Int) := by
    show (n : Int).fdiv (2 ^ 32) = _
    rw [Int.fdiv_eq_ediv_of_nonneg _ (by decide)]
    simp
  rw [hs, hw, hw, u64_id (by omega) (by omega), u64_id (by omega) (by omega)]
  have hhi : n / 4294967296 % 4294967296 = n / 4294967296 := Nat.mod_eq_of_lt (by omega)
  rw [hhi]
  have hsh : shlI .u64 ((n / 4294967296 : Nat) : Int) 32 = ((n / 4294967296 * 4294967296 : Nat) : Int) := by
    show IntKind.u64.wrap (((n / 4294967296 : Nat) : Int) * 2 ^ 32) = _
    have : ((n / 4294967296 : Nat) : Int) * 2 ^ 32 = ((n / 4294967296 * 4294967296 : Nat) : Int) := by simp
    rw [this]
    exact u64_id (by omega) (by omega)
  rw [hsh, bor_hi_lo (by omega) (by omega)]
  congr 1
  omega

/-! ### What an instruction of a guest leaves alone -/
/-- The window of a host's processor. -/
def InWin (c : Csrs) (k : Nat) : Prop := c.c5 ≤ (k : Int) ∧ (k : Int) < c.c5 + c.c6

structure Frame (m m' : Mach) : Prop where
  csr : m'.core.csr = m.core.csr
  halt : m'.halted = m.halted
  out : m'.out = m.out
  time : m'.time = m.time
  len : m'.mem.length = m.mem.length
  mem : ∀ k : Nat, ¬ InWin m.core.csr k → m'.mem[k]? = m.mem[k]?

theorem Frame.same {m m' : Mach} (h1 : m'.core.csr = m.core.csr) (h2 : m'.halted = m.halted) (h3 : m'.out = m.out) (h4 : m'.time = m.time) (h5 : m'.mem = m.mem) : Frame m m' :=
  ⟨h1, h2, h3, h4, by rw [h5], fun k _ => by rw [h5]⟩

theorem st1_frame {l : List Int} {a v : Int} {k : Nat} (ha : InR .u32 a) (hk : ¬ (a ≤ (k : Int) ∧ (k : Int) < a + 1)) : (st1 l a v)[k]? = l[k]? := by
  unfold st1
  have h0 := ix_eq (k := 0) ha (by omega) (by omega)
  have ha := inR_u32.1 ha
  rw [List.getElem?_set_ne (by rw [h0]; omega)]

theorem st4_frame {l : List Int} {a v : Int} {k : Nat} (ha : InR .u32 a) (hk : ¬ (a ≤ (k : Int) ∧ (k : Int) < a + 4)) : (st4 l a v)[k]? = l[k]? := by
  unfold st4
  obtain ⟨e1, e2, e3⟩ := k_vals
  have h0 := ix_eq (k := 0) ha (by omega) (by omega)
  have h1 := ix_eq (k := k1) ha (by omega) (by omega)
  have h2 := ix_eq (k := k2) ha (by omega) (by omega)
  have h3 := ix_eq (k := k3) ha (by omega) (by omega)
  have ha := inR_u32.1 ha
  rw [List.getElem?_set_ne (by rw [h3]; omega), List.getElem?_set_ne (by rw [h2]; omega), List.getElem?_set_ne (by rw [h1]; omega), List.getElem?_set_ne (by rw [h0]; omega)]

theorem storeM_len (l : List Int) (a n v : Int) : (storeM l a n v).length = l.length := by
  unfold storeM
  refine bif_ind (P := fun x : List Int => x.length = l.length) (fun _ => bif_ind (P := fun x : List Int => x.length = l.length) (fun _ => by simp [st4]) (fun _ => by simp [st1])) (fun _ => rfl)

theorem storeM_frame {l : List Int} {a n v : Int} {k : Nat} (ha : InR .u32 a) (hn : oneFour n = true) (hk : ¬ (a ≤ (k : Int) ∧ (k : Int) < a + n)) : (storeM l a n v)[k]? = l[k]? := by
  unfold storeM
  refine bif_ind (P := fun x : List Int => x[k]? = l[k]?) (fun _ => ?_) (fun _ => rfl)
  rcases oneFour_cases hn with rfl | rfl
  · exact st4_frame ha hk
  · exact st1_frame ha hk

theorem resT_no {m : Mach} {a n : Int} (h : (resT m a n).no = true) : (a.tmod (IntKind.u32.wrap n) != 0) = false ∧ translOk m.core (memSize m) a n = true := by
  unfold resT at h
  cases h1 : (a.tmod (IntKind.u32.wrap n) != 0) with
  | true => rw [h1] at h; simp [Trap.no] at h
  | false =>
    rw [h1] at h
    cases h2 : translOk m.core (memSize m) a n with
    | true => exact ⟨rfl, rfl⟩
    | false => rw [h2] at h; simp [Trap.no] at h

theorem trB_spec {base bound s a n : Int} (h : trB base bound s a n = true) : endM a n ≤ IntKind.u64.wrap bound ∧ IntKind.u64.wrap (IntKind.u64.wrap base + endM a n) ≤ IntKind.u64.wrap s := by
  unfold trB at h
  cases h1 : decide (endM a n > IntKind.u64.wrap bound) with
  | true => rw [h1] at h; cases h
  | false =>
    rw [h1] at h
    cases h2 : decide (IntKind.u64.wrap (IntKind.u64.wrap base + endM a n) > IntKind.u64.wrap s) with
    | true => rw [h2] at h; cases h
    | false =>
      have h1 := of_decide_eq_false h1
      have h2 := of_decide_eq_false h2
      exact ⟨by omega, by omega⟩

/-- A host whose processor is in user mode and has a window. -/
structure User (m : Mach) : Prop where
  mode : m.core.csr.c0 = 2
  base : InR .u32 m.core.csr.c5
  bound : InR .u32 m.core.csr.c6
  small : m.mem.length < 1000000

theorem User.sv {m : Mach} (h : User m) : svB m.core = false := by unfold svB; rw [h.mode]; decide
theorem User.ie {m : Mach} (h : User m) : ieB m.core = true := by unfold ieB; rw [h.mode]; decide

theorem stM_frame {m : Mach} (hu : User m) {a n v : Int} (ha : InR .u32 a) (hn : oneFour n = true) : Frame m (stM m a n v) := by
  unfold stM
  refine bif_ind (P := fun x : Mach => Frame m x) (fun h => ?_) (fun _ => Frame.same rfl rfl rfl rfl rfl)
  obtain ⟨h1, h2⟩ := resT_no h
  have hp : resP m a n = IntKind.u32.wrap (m.core.csr.c5 + a) := by
    unfold resP
    rw [h1, h2]
    simp only [cond_false, cond_true, translP, h2, hu.sv]
  have ht : trB m.core.csr.c5 m.core.csr.c6 (memSize m) a n = true := by
    have := h2
    unfold translOk at this
    rwa [hu.sv, cond_false] at this
  obtain ⟨g1, g2⟩ := trB_spec ht
  have hb := inR_u32.1 hu.base
  have hc := inR_u32.1 hu.bound
  have ha' := inR_u32.1 ha
  have hn' : 1 ≤ n ∧ n ≤ 4 := by rcases oneFour_cases hn with rfl | rfl <;> omega
  have hend : endM a n = a + n := by
    unfold endM
    rw [u64_id (v := a) (by omega) (by omega), u64_id (v := n) (by omega) (by omega), u64_id (v := a + n) (by omega) (by omega)]
  have hsz : memSize m = (m.mem.length : Int) := by
    unfold memSize
    have := hu.small
    exact u32_id (by omega) (by omega)
  have hsm := hu.small
  rw [hend, u64_id (v := m.core.csr.c6) (by omega) (by omega)] at g1
  rw [hend, hsz, u64_id (v := m.core.csr.c5) (by omega) (by omega), u64_id (v := (m.mem.length : Int)) (by omega) (by omega), u64_id (by omega) (by omega)] at g2
  have hpa : resP m a n = m.core.csr.c5 + a := by rw [hp]; exact u32_id (by omega) (by omega)
  refine ⟨rfl, rfl, rfl, rfl, storeM_len _ _ _ _, fun k hk => ?_⟩
  dsimp only
  rw [hpa]
  refine storeM_frame (inR_u32.2 (by omega)) hn fun hk2 => hk ?_
  unfold InWin
  omega

theorem ldT_cause (m : Mach) (a n : Int) : (ldT m a n).cause ≠ 6 := by
  have h : (resT m a n).cause ≠ 6 := by
    unfold resT
    refine bif_ind (P := fun t : Trap => t.cause ≠ 6) (fun _ => (by decide : (4 : Int) ≠ 6)) (fun _ => bif_ind (P := fun t : Trap => t.cause ≠ 6) (fun _ => (by decide : (0 : Int) ≠ 6)) (fun _ => (by decide : (3 : Int) ≠ 6)))
  unfold ldT
  exact bif_ind (P := fun t : Trap => t.cause ≠ 6) (fun _ => by decide) (fun _ => h)

/-- What an instruction gives: a frame, and no timer trap. -/
def Kept (m : Mach) (r : MT) : Prop := Frame m r.1 ∧ r.2.cause ≠ 6

theorem exec_kept {m : Mach} (hu : User m) (i : Instr) : Kept m (execX m i) := by
  have put : ∀ (v : Int) (t : Trap), t.cause ≠ 6 → Kept m (m.put i v, t) := fun v t ht => ⟨Frame.same rfl rfl rfl rfl rfl, ht⟩
  have same : ∀ (t : Trap), t.cause ≠ 6 → Kept m (m, t) := fun t ht => ⟨Frame.same rfl rfl rfl rfl rfl, ht⟩
  have load : Kept m (loadX m i) := bif_ind (P := Kept m) (fun _ => put _ _ (ldT_cause _ _ _)) (fun _ => same _ (ldT_cause _ _ _))
  have store : Kept m (storeX m i) := bif_ind (P := Kept m) (fun _ => by
    have h := stM_frame hu (a := atM (m.q i)) (n := sizeM (m.q i)) (v := m.z i) (wrap_InR .u32 _) (size_oneFour _)
    exact ⟨⟨h.csr, h.halt, h.out, h.time, h.len, h.mem⟩, ldT_cause _ _ _⟩) (fun _ => same _ (ldT_cause _ _ _))
  have adv : ∀ (v : Int), Kept m (m.adv v, ⟨0, 0⟩) := fun v => ⟨Frame.same rfl rfl rfl rfl rfl, (by decide : (0 : Int) ≠ 6)⟩
  have branch : Kept m (branchX m i) := bif_ind (P := Kept m) (fun _ => adv _) (fun _ => adv _)
  have jump : Kept m (jumpX m i) := bif_ind (P := Kept m) (fun _ => ⟨Frame.same rfl rfl rfl rfl rfl, (by decide : (0 : Int) ≠ 6)⟩) (fun _ => ⟨Frame.same rfl rfl rfl rfl rfl, (by decide : (0 : Int) ≠ 6)⟩)
  unfold execX
  exact bif_ind (P := Kept m) (fun _ => put _ _ (by decide)) fun _ => bif_ind (P := Kept m) (fun _ => put _ _ (by decide)) fun _ => bif_ind (P := Kept m) (fun _ => load) fun _ => bif_ind (P := Kept m) (fun _ => load) fun _ =>
    bif_ind (P := Kept m) (fun _ => store) fun _ => bif_ind (P := Kept m) (fun _ => store) fun _ => bif_ind (P := Kept m) (fun _ => branch) fun _ => bif_ind (P := Kept m) (fun _ => branch) fun _ => bif_ind (P := Kept m) (fun _ => branch) fun _ =>
    bif_ind (P := Kept m) (fun _ => jump) fun _ => bif_ind (P := Kept m) (fun _ => jump) fun _ => bif_ind (P := Kept m) (fun _ => same _ (by decide)) fun _ => bif_ind (P := Kept m) (fun _ => put _ _ (by decide)) fun _ => same _ (by decide)
end Go.Sx
end

/-
  The plain law, second part: one step of a host that runs a guest; steps until one traps.
  Conditions: none; lemmas on the plain functions.
-/
section
namespace Go.Sx
open Go Go.RowKit

theorem Frame.trans {m m1 m2 : Mach} (h : Frame m m1) (k : Frame m1 m2) : Frame m m2 :=
  ⟨k.csr.trans h.csr, k.halt.trans h.halt, k.out.trans h.out, k.time.trans h.time, k.len.trans h.len, fun j hj => (k.mem j (by rw [h.csr]; exact hj)).trans (h.mem j hj)⟩

theorem cur_cause (m : Mach) : (curX m).2.cause ≠ 6 := by
  unfold curX
  exact bif_ind (P := fun r : IT => r.2.cause ≠ 6) (fun _ => ldT_cause _ _ _) fun _ => bif_ind (P := fun r : IT => r.2.cause ≠ 6) (fun _ => (by decide : (1 : Int) ≠ 6)) fun _ =>
    bif_ind (P := fun r : IT => r.2.cause ≠ 6) (fun _ => bif_ind (P := fun r : IT => r.2.cause ≠ 6) (fun _ => (by decide : (2 : Int) ≠ 6)) (fun _ => (by decide : (0 : Int) ≠ 6))) (fun _ => (by decide : (0 : Int) ≠ 6))

/-- In user mode an instruction that is to be executed is not privileged. -/
theorem cur_plain {m : Mach} (hs : svB m.core = false) (h : ((curX m).2.cause != 0) = false) : privB (curX m).1.op = false := by
  unfold curX at h ⊢
  cases h1 : ((ldT m m.core.pc 4).cause != 0) with
  | true => rw [h1] at h; simp only [cond_true] at h; rw [h1] at h; cases h
  | false =>
    rw [h1] at h
    simp only [cond_false] at h ⊢
    cases h2 : decOk (wordM m) with
    | false => rw [h2] at h; cases h
    | true =>
      rw [h2] at h
      simp only [Bool.not_true, cond_false] at h ⊢
      cases h3 : privB (decM (wordM m)).op with
      | true => rw [h3, hs] at h; cases h
      | false => simp only [cond_false]; exact h3

/-- One step of a host that runs a guest. -/
theorem step_user {m : Mach} (hu : User m) (hh : m.halted = false) : (dueB m = true ∧ stepX m = (endX m ⟨6, 0⟩, ⟨6, 0⟩)) ∨ (dueB m = false ∧ ∃ m1 t, Frame m m1 ∧ t.cause ≠ 6 ∧ stepX m = (endX m1 t, t)) := by
  cases hd : dueB m with
  | true =>
    left
    refine ⟨rfl, ?_⟩
    simp only [stepX, hh, hd, Bool.not_false, cond_true]
  | false =>
    right
    refine ⟨rfl, ?_⟩
    have e : stepX m = plainX m := by simp only [stepX, hh, hd, Bool.not_false, cond_true, cond_false]
    rw [e]
    unfold plainX
    rw [hh]
    simp only [cond_false]
    cases h1 : ((curX m).2.cause != 0) with
    | true => exact ⟨m, (curX m).2, Frame.same rfl rfl rfl rfl rfl, cur_cause m, rfl⟩
    | false =>
      simp only [cond_false]
      rw [cur_plain hu.sv h1]
      simp only [cond_false]
      obtain ⟨k1, k2⟩ := exec_kept hu (curX m).1
      exact ⟨_, _, k1, k2, rfl⟩

theorem enter_none (c : Core) (t : Trap) (h : t.cause = 0) : c.enter t = c := by
  unfold Core.enter
  rw [h]; rfl

theorem User.frame {m m' : Mach} (h : User m) (k : Frame m m') : User m' :=
  ⟨by rw [k.csr]; exact h.mode, by rw [k.csr]; exact h.base, by rw [k.csr]; exact h.bound, by rw [k.len]; exact h.small⟩

/-- Steps until one traps. -/
structure Ran (m0 : Mach) (al : Int) (r : UR) (n : Int) (start : Int) : Prop where
  time : r.1.time = r.2.2.2 + 1
  from_ : start ≤ r.2.2.2
  upto : r.2.2.2 ≤ al
  count : r.2.1 = n + (r.2.2.2 - start)
  out : r.1.out = m0.out
  halt : r.1.halted = false
  len : r.1.mem.length = m0.mem.length
  mem : ∀ k : Nat, ¬ InWin m0.core.csr k → r.1.mem[k]? = m0.mem[k]?
  cause : r.2.2.1.cause ≠ 0
  timer : r.2.2.1.cause = 6 → r.2.2.2 = al

theorem until_ok {m0 : Mach} {al : Int} (hu0 : User m0) (hal : cmpM m0.core.csr = al) (hmax : al < 9223372036854775807) (hout : m0.out.length < 1000000) : ∀ (f : Nat) (m : Mach) (n : Int),
    m.core.csr = m0.core.csr → m.halted = false → m.out = m0.out → m.mem.length = m0.mem.length → (∀ k : Nat, ¬ InWin m0.core.csr k → m.mem[k]? = m0.mem[k]?) → 0 ≤ m.time → m.time ≤ al → al - m.time < f → 0 ≤ n → n + (al - m.time) < 4611686018427387904 →
    ∃ r, untilF f m n = some r ∧ Ran m0 al r n m.time := by
  intro f
  induction f with
  | zero => intro m n _ _ _ _ _ _ h1 h2; omega
  | succ f ih =>
    intro m n hcsr hh ho hlen hmem ht0 ht1 hf hn0 hn1
    have hu : User m := ⟨by rw [hcsr]; exact hu0.mode, by rw [hcsr]; exact hu0.base, by rw [hcsr]; exact hu0.bound, by rw [hlen]; exact hu0.small⟩
    have hlens : (decide (m.mem.length < 1000000) && decide (m.out.length < 1000000)) = true := by
      have := hu.small
      rw [ho]
      simp [this, hout]
    have hdue : dueB m = decide (m.time ≥ al) := by
      unfold dueB
      rw [hu.ie, cond_true, hcsr, hal]
    have htw : IntKind.u64.wrap (m.time + 1) = m.time + 1 := u64_id (by omega) (by omega)
    simp only [untilF, hlens, cond_true]
    rcases step_user hu hh with ⟨h1, h2⟩ | ⟨h1, m1, t, k1, k2, h2⟩
    · rw [h2]
      refine ⟨_, rfl, ?_⟩
      rw [hdue] at h1
      have h1 := of_decide_eq_true h1
      exact ⟨htw, Int.le_refl _, ht1, (by show n = n + (m.time - m.time); omega), ho, hh, hlen, hmem, (by decide : (6 : Int) ≠ 0), fun _ => by show m.time = al; omega⟩
    · rw [h2]
      rw [hdue] at h1
      have h1 := of_decide_eq_false h1
      have htw1 : IntKind.u64.wrap (m1.time + 1) = m.time + 1 := by rw [k1.time]; exact htw
      have hm1 : ∀ k : Nat, ¬ InWin m0.core.csr k → m1.mem[k]? = m0.mem[k]? := fun k hk => (k1.mem k (by rw [hcsr]; exact hk)).trans (hmem k hk)
      cases hc : (t.cause != 0) with
      | true =>
        simp only [cond_true]
        refine ⟨_, rfl, ?_⟩
        exact ⟨htw1, Int.le_refl _, ht1, (by show n = n + (m.time - m.time); omega), k1.out.trans ho, k1.halt.trans hh, k1.len.trans hlen, hm1, by simpa using hc, fun h6 => absurd h6 k2⟩
      | false =>
        simp only [cond_false]
        have hc0 : t.cause = 0 := by simpa using hc
        have hnw : IntKind.i64.wrap (n + 1) = n + 1 := i64_id (by omega) (by omega)
        have hte : (endX m1 t).time = m.time + 1 := htw1
        obtain ⟨r, g1, g2⟩ := ih (endX m1 t) (IntKind.i64.wrap (n + 1)) (by show (m1.core.enter t).csr = _; rw [enter_none _ _ hc0]; exact k1.csr.trans hcsr) (k1.halt.trans hh) (k1.out.trans ho) (k1.len.trans hlen) hm1
          (by rw [hte]; omega) (by rw [hte]; omega) (by rw [hte]; omega) (by rw [hnw]; omega) (by rw [hnw, hte]; omega)
        refine ⟨r, g1, ?_⟩
        rw [hnw, hte] at g2
        exact ⟨g2.time, by have := g2.from_; omega, g2.upto, by have := g2.count; omega, g2.out, g2.halt, g2.len, g2.mem, g2.cause, g2.timer⟩
end Go.Sx
end

/-
  The plain law, third part: what the handler keeps of a virtual CPU; the window of a guest.
  Conditions: none; lemmas on the plain functions.
-/
section
namespace Go.Sx
open Go Go.RowKit

/-! ### The processor of a guest -/
structure CoreI (c : Core) : Prop where
  r0 : c.regs.r0 = 0
  c5 : 0 ≤ c.csr.c5
  c7 : c.csr.c7 = 0
  c8 : c.csr.c8 = 0

theorem CoreI.enter {c : Core} (h : CoreI c) (t : Trap) : CoreI (c.enter t) := by
  unfold Core.enter
  exact bif_ind (P := CoreI) (fun _ => h) (fun _ => ⟨h.r0, h.c5, h.c7, h.c8⟩)

theorem CoreI.save {v : Vcpu} (h : CoreI v.core) (m : Mach) : CoreI (saveX m v).core := ⟨rfl, h.c5, h.c7, h.c8⟩

theorem set_r0 {r : Regs} (h : r.r0 = 0) (i v : Int) : (r.set i v).r0 = 0 := by
  unfold Regs.set
  refine bif_ind (P := fun x : Regs => x.r0 = 0) (fun h1 => bif_ind (P := fun x : Regs => x.r0 = 0) (fun _ => ?_) (fun _ => h)) (fun _ => h)
  have h1 := of_decide_eq_true h1
  show upI i 0 v r.r0 = 0
  rw [upI, if_neg (by omega)]
  exact h

theorem masks7 : pick 7 masksM.list = 0 := by decide
theorem masks8 : pick 8 masksM.list = 0 := by decide

theorem CoreI.write {c : Core} (h : CoreI c) (i v : Int) : CoreI { c with csr := c.csr.write i v } := by
  unfold Csrs.write
  refine bif_ind (P := fun x : Csrs => CoreI { c with csr := x }) (fun _ => bif_ind (P := fun x : Csrs => CoreI { c with csr := x }) (fun _ => ?_) (fun _ => h)) (fun _ => h)
  refine ⟨h.r0, ?_, ?_, ?_⟩
  · show 0 ≤ upI i 5 _ c.csr.c5
    unfold upI
    split
    · exact bor_u32 _ _
    · exact h.c5
  · show upI i 7 _ c.csr.c7 = 0
    unfold upI
    split
    · rename_i hi
      subst hi
      rw [masks7]
      have e : pick 7 c.csr.list = 0 := h.c7
      rw [e, band32, BitVec.ofInt_ofNat]
      simp
      decide
    · exact h.c7
  · show upI i 8 _ c.csr.c8 = 0
    unfold upI
    split
    · rename_i hi
      subst hi
      rw [masks8]
      have e : pick 8 c.csr.list = 0 := h.c8
      rw [e, band32, BitVec.ofInt_ofNat]
      simp
      decide
    · exact h.c8

theorem CoreI.priv {m : Mach} (h : CoreI m.core) (i : Instr) : CoreI (privX m i).core := by
  unfold privX
  refine bif_ind (P := fun x : Mach => CoreI x.core) (fun _ => ⟨h.r0, h.c5, h.c7, h.c8⟩) fun _ => bif_ind (P := fun x : Mach => CoreI x.core) (fun _ => ⟨set_r0 h.r0 _ _, h.c5, h.c7, h.c8⟩) fun _ => bif_ind (P := fun x : Mach => CoreI x.core) (fun _ => ?_) fun _ =>
    bif_ind (P := fun x : Mach => CoreI x.core) (fun _ => ⟨h.r0, h.c5, h.c7, h.c8⟩) fun _ => bif_ind (P := fun x : Mach => CoreI x.core) (fun _ => ⟨h.r0, h.c5, h.c7, h.c8⟩) (fun _ => ⟨h.r0, h.c5, h.c7, h.c8⟩)
  have := h.write (csrN i) (m.x i)
  exact ⟨this.r0, this.c5, this.c7, this.c8⟩

theorem priv_out (m : Mach) (i : Instr) : (privX m i).out = m.out ∨ ∃ b, (privX m i).out = m.out ++ [b] := by
  unfold privX
  refine bif_ind (P := fun x : Mach => x.out = m.out ∨ ∃ b, x.out = m.out ++ [b]) (fun _ => .inl rfl) fun _ => bif_ind (P := fun x : Mach => x.out = m.out ∨ ∃ b, x.out = m.out ++ [b]) (fun _ => .inl rfl) fun _ =>
    bif_ind (P := fun x : Mach => x.out = m.out ∨ ∃ b, x.out = m.out ++ [b]) (fun _ => .inl rfl) fun _ => bif_ind (P := fun x : Mach => x.out = m.out ∨ ∃ b, x.out = m.out ++ [b]) (fun _ => .inl rfl) fun _ =>
      bif_ind (P := fun x : Mach => x.out = m.out ∨ ∃ b, x.out = m.out ++ [b]) (fun _ => .inr ⟨_, rfl⟩) (fun _ => .inl rfl)

/-! ### Logs -/
def LogI (l : List Ev) (d : Int) : Prop := ∀ k, k < l.length → 1 ≤ (evAt l (k : Int)).kind ∧ (evAt l (k : Int)).kind ≤ 3 ∧ lastAt l k < (evAt l (k : Int)).at_ ∧ (evAt l (k : Int)).at_ < d

theorem LogI.mono {l : List Ev} {d d' : Int} (h : LogI l d) (hd : d ≤ d') : LogI l d' := fun k hk => by
  obtain ⟨h1, h2, h3, h4⟩ := h k hk
  exact ⟨h1, h2, h3, by omega⟩

theorem evAt_app {l : List Ev} {e : Ev} {k : Nat} (h : k < l.length) : evAt (l ++ [e]) (k : Int) = evAt l (k : Int) := by
  simp only [evAt, Int.toNat_natCast]
  rw [List.getD_eq_getElem?_getD, List.getD_eq_getElem?_getD, List.getElem?_append_left h]

theorem evAt_end {l : List Ev} {e : Ev} : evAt (l ++ [e]) (l.length : Int) = e := by
  simp [evAt]

theorem LogI.push {l : List Ev} {d : Int} (h : LogI l d) (hd : 0 ≤ d) {kd t : Int} (h1 : 1 ≤ kd) (h3 : kd ≤ 3) : LogI (l ++ [⟨kd, d, t⟩]) (d + 1) := by
  intro k hk
  simp only [List.length_append, List.length_singleton] at hk
  rcases Nat.lt_or_ge k l.length with hlt | hge
  · rw [evAt_app hlt]
    obtain ⟨a1, a2, a3, a4⟩ := h k hlt
    refine ⟨a1, a2, ?_, by omega⟩
    cases k with
    | zero => exact a3
    | succ j =>
      show (evAt (l ++ [⟨kd, d, t⟩]) (j : Int)).at_ < _
      rw [evAt_app (by omega)]
      exact a3
  · have hkl : k = l.length := by omega
    subst hkl
    rw [evAt_end]
    refine ⟨h1, h3, ?_, by show d < d + 1; omega⟩
    cases hl : l.length with
    | zero => show (-1 : Int) < d; omega
    | succ j =>
      show (evAt (l ++ [⟨kd, d, t⟩]) (j : Int)).at_ < d
      rw [evAt_app (by omega)]
      exact (h j (by omega)).2.2.2

/-! ### The handler -/
structure Handled (v v' : Vcpu) (d : Int) : Prop where
  core : CoreI v'.core
  log : LogI v'.log v'.done
  done : v'.done = v.done + d
  logp : v.log <+: v'.log
  logl : v'.log.length ≤ v.log.length + 1
  outp : v.out <+: v'.out
  outl : v'.out.length ≤ v.out.length + 1

theorem seen_kind (i : Instr) (n t : Int) : ∃ kd, seenX i n t = ⟨kd, n, t⟩ ∧ 1 ≤ kd ∧ kd ≤ 3 := by
  unfold seenX
  exact bif_ind (P := fun e : Ev => ∃ kd, e = ⟨kd, n, t⟩ ∧ 1 ≤ kd ∧ kd ≤ 3) (fun _ => ⟨3, rfl, by decide, by decide⟩) (fun _ => ⟨2, rfl, by decide, by decide⟩)

theorem run_handled {v : Vcpu} (hc : CoreI v.core) (hl : LogI v.log (v.done + 1)) (hd0 : 0 ≤ v.done) (hd1 : v.done < 4611686018427387904) (i : Instr) (t : Int) : Handled v (v.run i t) 1 := by
  have hw : IntKind.i64.wrap (v.done + 1) = v.done + 1 := i64_id (by omega) (by omega)
  have hcore := CoreI.priv (m := vmX v [] t) hc i
  refine ⟨hcore, ?_, hw, List.prefix_refl _, Nat.le_succ _, ?_, ?_⟩
  · show LogI v.log (IntKind.i64.wrap (v.done + 1))
    rw [hw]; exact hl
  · show v.out <+: (privX (vmX v [] t) i).out
    rcases priv_out (vmX v [] t) i with h | ⟨b, h⟩
    · rw [h]; exact List.prefix_refl _
    · rw [h]; exact List.prefix_append _ _
  · show (privX (vmX v [] t) i).out.length ≤ _
    rcases priv_out (vmX v [] t) i with h | ⟨b, h⟩
    · rw [h]; exact Nat.le_succ _
    · rw [h]; simp [vmX]

theorem handle_ok {v : Vcpu} (hc : CoreI v.core) (hl : LogI v.log v.done) (hd0 : 0 ≤ v.done) (hd1 : v.done < 4611686018427387904) {t : Trap} (ht : t.cause ≠ 0) (time : Int) :
    Handled v (handleX v t time) (if t.cause = 6 then 0 else 1) := by
  by_cases h6 : t.cause = 6
  · have e : handleX v t time = v := by
      have : monB t = true := by simp [monB, h6]
      simp only [handleX, this, cond_true]
    rw [e, if_pos h6]
    exact ⟨hc, hl, by omega, List.prefix_refl _, by omega, List.prefix_refl _, by omega⟩
  · rw [if_neg h6]
    have hm : monB t = false := by simp [monB, h6, ht]
    have hw : IntKind.i64.wrap (v.done + 1) = v.done + 1 := i64_id (by omega) (by omega)
    unfold handleX
    rw [hm, cond_false]
    refine bif_ind (P := fun x => Handled v x 1) (fun hcan => ?_) (fun _ => ?_)
    · have hok : okW t.tval = true := by
        unfold canB at hcan
        cases h : okW t.tval with
        | true => rfl
        | false => rw [h] at hcan; cases hcan
      unfold emulX
      rw [hok, Bool.not_true, cond_false]
      refine bif_ind (P := fun x => Handled v x 1) (fun _ => ?_) (fun _ => run_handled hc (hl.mono (by omega)) hd0 hd1 _ _)
      obtain ⟨kd, e1, e2, e3⟩ := seen_kind (decM t.tval) v.done time
      have hlog : LogI (v.tell (decM t.tval) time).log (v.done + 1) := by
        show LogI (v.log ++ [seenX (decM t.tval) v.done time]) (v.done + 1)
        rw [e1]
        exact hl.push hd0 e2 e3
      have hr := run_handled (v := v.tell (decM t.tval) time) hc hlog hd0 hd1 (decM t.tval) time
      refine ⟨hr.core, hr.log, hr.done, (List.prefix_append _ _).trans hr.logp, ?_, hr.outp, hr.outl⟩
      show (v.tell (decM t.tval) time).log.length ≤ _
      simp [Vcpu.tell]
    · have hne : (t.cause == 0) = false := by simpa using ht
      unfold Vcpu.reflect
      rw [hne, cond_false]
      refine ⟨hc.enter t, ?_, hw, List.prefix_refl _, Nat.le_succ _, List.prefix_refl _, Nat.le_succ _⟩
      show LogI v.log (IntKind.i64.wrap (v.done + 1))
      rw [hw]
      exact hl.mono (by omega)

/-! ### The window of a guest -/
theorem win_ok {p : Part} {c : Core} (hb : InR .u32 p.base) (hs : InR .u32 p.size) (h5 : 0 ≤ c.csr.c5) (hsum : p.base + p.size ≤ 4294967295) :
    InR .u32 (winX p c).1 ∧ InR .u32 (winX p c).2 ∧ ((winX p c).2 = 0 ∨ (p.base ≤ (winX p c).1 ∧ (winX p c).1 + (winX p c).2 ≤ p.base + p.size)) := by
  have hb' := inR_u32.1 hb
  have hs' := inR_u32.1 hs
  unfold winX
  refine bif_ind (P := fun x : Int × Int => InR .u32 x.1 ∧ InR .u32 x.2 ∧ (x.2 = 0 ∨ (p.base ≤ x.1 ∧ x.1 + x.2 ≤ p.base + p.size))) (fun _ => ⟨hb, hs, .inr ⟨Int.le_refl _, Int.le_refl _⟩⟩) fun _ =>
    bif_ind (P := fun x : Int × Int => InR .u32 x.1 ∧ InR .u32 x.2 ∧ (x.2 = 0 ∨ (p.base ≤ x.1 ∧ x.1 + x.2 ≤ p.base + p.size))) (fun _ => ⟨inR_u32.2 ⟨by decide, by decide⟩, inR_u32.2 ⟨by decide, by decide⟩, .inl rfl⟩) fun hne => ?_
  refine ⟨wrap_InR .u32 _, wrap_InR .u32 _, .inr ?_⟩
  have hne : bndM p c ≠ 0 := by simpa using hne
  have hleft : leftM p c = p.size - (if c.csr.c5 < p.size then c.csr.c5 else p.size) := by
    unfold leftM
    split
    · rw [u32_id (by omega) (by omega), u64_id (by omega) (by omega)]
    · rw [u32_id (by omega) (by omega), u64_id (by omega) (by omega)]
  have hu6 := u64_wrap c.csr.c6
  have hbl : 0 ≤ bndM p c ∧ bndM p c ≤ leftM p c := by
    unfold bndM
    split
    · refine ⟨?_, Int.le_refl _⟩
      rw [hleft]; split <;> omega
    · exact ⟨hu6.1, by omega⟩
  have h5s : c.csr.c5 < p.size := by
    rcases Int.lt_or_le c.csr.c5 p.size with h | h
    · exact h
    · rw [if_neg (by omega)] at hleft
      omega
  rw [if_pos h5s] at hleft
  dsimp only
  rw [u32_id (v := p.base + c.csr.c5) (by omega) (by omega), u32_id (v := bndM p c) (by omega) (by omega)]
  omega
end Go.Sx
end

/-
  The plain law, fourth part: a time slice.
  Conditions: none; where the arguments fit, a time slice is as the law says.
-/
section
namespace Go.Sx
open Go Go.RowKit

/-- What the arguments' kinds and the law's guard say. -/
structure Fit (x : In3) : Prop where
  mem : x.h.mem.length ≤ 600
  out : x.h.out.length ≤ 600
  vout : x.v.out.length ≤ 600
  vlog : x.v.log.length ≤ 600
  halt : x.h.halted = false
  t0 : 0 ≤ x.h.time
  t1 : x.h.time ≤ 4611686018427387904
  q0 : -9223372036854775808 ≤ x.q
  q1 : x.q ≤ 60
  done0 : 0 ≤ x.v.done
  done1 : x.v.done ≤ 1099511627776
  base : InR .u32 x.p.base
  size : InR .u32 x.p.size
  ins : x.p.base + x.p.size ≤ (x.h.mem.length : Int)
  core : CoreI x.v.core
  log : LogI x.v.log x.v.done

theorem Fit.end_ {x : In3} (h : Fit x) : x.e = x.h.time + (if 1 > x.q then 1 else x.q) ∧ x.h.time < x.e ∧ x.e ≤ x.h.time + 60 := by
  have h0 := h.t0
  have h1 := h.t1
  have h2 := h.q1
  have e1 : IntKind.u64.wrap (if 1 > x.q then 1 else x.q) = (if 1 > x.q then 1 else x.q) := u64_id (by split <;> omega) (by split <;> omega)
  have e : x.e = x.h.time + (if 1 > x.q then 1 else x.q) := by
    unfold In3.e deadM
    rw [e1]
    exact u64_id (by split <;> omega) (by split <;> omega)
  refine ⟨e, ?_, ?_⟩ <;> rw [e] <;> split <;> omega

/-- What holds ahead of each turn of a time slice. -/
structure Turn (x : In3) (y : HV) : Prop where
  halt : y.1.halted = false
  out : y.1.out = x.h.out
  len : y.1.mem.length = x.h.mem.length
  mem : ∀ k : Nat, ((k : Int) < x.p.base ∨ x.p.base + x.p.size ≤ (k : Int)) → y.1.mem[k]? = x.h.mem[k]?
  t0 : x.h.time ≤ y.1.time
  t1 : y.1.time ≤ x.e + 1
  core : CoreI y.2.core
  log : LogI y.2.log y.2.done
  logp : x.v.log <+: y.2.log
  outp : x.v.out <+: y.2.out
  grow : y = (x.h, x.v) ∨ (x.v.done < y.2.done ∧ x.v.halted = false)

def pend1 (y : HV) : Int := if pendB y.2 y.1.time = true then 1 else 0
def left (x : In3) (y : HV) : Int := 2 * (x.e + 1 - y.1.time) + pend1 y

structure Room2 (x : In3) (y : HV) : Prop where
  log : (y.2.log.length : Int) + left x y ≤ 1000
  out : (y.2.out.length : Int) + left x y ≤ 1000
  done : y.2.done + left x y ≤ 2199023255552

theorem pend1_range (y : HV) : 0 ≤ pend1 y ∧ pend1 y ≤ 1 := by unfold pend1; split <;> omega

theorem Turn.done0 {x : In3} (_hf : Fit x) {y : HV} (h : Turn x y) : x.v.done ≤ y.2.done := by
  rcases h.grow with rfl | ⟨h, _⟩
  · exact Int.le_refl _
  · omega

theorem inject_pend (v : Vcpu) (t u : Int) : pendB (v.inject t) u = false := by
  have : ieB (v.inject t).core = false := by
    have hz : band .u32 (v.core.enter ⟨6, 0⟩).csr.c0 2 = 0 := stIn_ie v.core.csr.c0
    unfold ieB
    show (band .u32 (v.core.enter ⟨6, 0⟩).csr.c0 2 != 0) = false
    rw [hz]; rfl
  unfold pendB
  rw [this]
  cases (!(v.inject t).halted) <;> rfl

/-- A timer interrupt that is due. -/
theorem turn_due {x : In3} (hf : Fit x) {y : HV} (h : Turn x y) (hr : Room2 x y) (hh : y.2.halted = false) (hp : pendB y.2 y.1.time = true) : Turn x (y.1, v18 y.2 y.1.time) ∧ Room2 x (y.1, v18 y.2 y.1.time) ∧ left x (y.1, v18 y.2 y.1.time) < left x y := by
  have e : v18 y.2 y.1.time = y.2.inject y.1.time := by simp only [v18, hp, Bool.not_true, cond_false]
  rw [e]
  have hd0 := hf.done0
  have hd := h.done0 hf
  have hpr := pend1_range y
  have ht1 := h.t1
  have hrl := hr.log
  have hro := hr.out
  have hrd := hr.done
  have hw : IntKind.i64.wrap (y.2.done + 1) = y.2.done + 1 := i64_id (by omega) (by unfold left at hrd; omega)
  have hl : left x (y.1, y.2.inject y.1.time) = left x y - 1 := by
    unfold left pend1
    rw [if_pos hp, if_neg (by rw [inject_pend]; decide)]
    dsimp only
    omega
  have hnh : x.v.halted = false := by
    rcases h.grow with rfl | ⟨_, h2⟩
    · exact hh
    · exact h2
  have hlen : (y.2.inject y.1.time).log.length = y.2.log.length + 1 := by simp [Vcpu.inject]
  refine ⟨⟨h.halt, h.out, h.len, h.mem, h.t0, h.t1, h.core.enter ⟨6, 0⟩, ?_, h.logp.trans (List.prefix_append _ _), h.outp, .inr ⟨?_, hnh⟩⟩, ⟨?_, ?_, ?_⟩, ?_⟩
  · show LogI (y.2.log ++ [⟨1, y.2.done, y.1.time⟩]) (IntKind.i64.wrap (y.2.done + 1))
    rw [hw]
    exact h.log.push (by omega) (by decide) (by decide)
  · show x.v.done < IntKind.i64.wrap (y.2.done + 1)
    rw [hw]; omega
  · rw [hl]
    show ((y.2.inject y.1.time).log.length : Int) + _ ≤ _
    rw [hlen]; omega
  · rw [hl]
    show (y.2.out.length : Int) + _ ≤ _
    omega
  · rw [hl]
    show IntKind.i64.wrap (y.2.done + 1) + _ ≤ _
    rw [hw]; omega
  · rw [hl]; omega

/-- The guest runs until a trap. -/
theorem turn_run {x : In3} (hf : Fit x) {y : HV} (h : Turn x y) (hr : Room2 x y) (hh : y.2.halted = false) (ht : y.1.time < x.e) (hp : pendB y.2 y.1.time = false) :
    (untilF fuelU (goX x.p x.e y) 0).isSome = true ∧ Turn x (afterU (untilX (goX x.p x.e y)) y.2) ∧ Room2 x (afterU (untilX (goX x.p x.e y)) y.2) ∧ left x (afterU (untilX (goX x.p x.e y)) y.2) < left x y := by
  obtain ⟨he, he1, he2⟩ := hf.end_
  have f0 := hf.t0
  have f1 := hf.t1
  have hd0 := hf.done0
  have hd := h.done0 hf
  have hpr := pend1_range y
  have hmem := hf.mem
  have hout := hf.out
  have ht0 := h.t0
  have hrl := hr.log
  have hro := hr.out
  have hrd := hr.done
  have hcm : 0 ≤ cmpM y.2.core.csr := (bor_u64 _ _).1
  -- the alarm
  have hal : y.1.time < alarmX y.2 x.e ∧ alarmX y.2 x.e ≤ x.e := by
    unfold alarmX
    cases hie : ieB y.2.core with
    | false => simp only [Bool.not_false, cond_true]; omega
    | true =>
      have hnp : ¬ y.1.time ≥ cmpM y.2.core.csr := by
        unfold pendB at hp
        rw [hh, hie] at hp
        exact of_decide_eq_false hp
      simp only [Bool.not_true, cond_false]
      split <;> omega
  have hins := hf.ins
  have hbr := inR_u32.1 hf.base
  have hsr := inR_u32.1 hf.size
  obtain ⟨w1, w2, w3⟩ := win_ok (p := x.p) (c := y.2.core) hf.base hf.size h.core.c5 (by omega)
  -- the host that runs the guest
  have hu : User (goX x.p x.e y) := ⟨rfl, w1, w2, by show y.1.mem.length < 1000000; rw [h.len]; omega⟩
  have hcmp : cmpM (goX x.p x.e y).core.csr = alarmX y.2 x.e := alarm_read (by omega) (by omega)
  have hstart : (goX x.p x.e y).time = y.1.time := rfl
  obtain ⟨r, g1, g2⟩ := until_ok hu hcmp (by omega) (by show y.1.out.length < 1000000; rw [h.out]; omega) fuelU (goX x.p x.e y) 0 rfl h.halt rfl rfl (fun _ _ => rfl) (by rw [hstart]; omega) (by rw [hstart]; omega) (by rw [hstart]; show alarmX y.2 x.e - y.1.time < ((200 : Nat) : Int); omega) (Int.le_refl _) (by rw [hstart]; omega)
  have hux : untilX (goX x.p x.e y) = r := by unfold untilX; rw [g1]; rfl
  rw [hux]
  refine ⟨by rw [g1]; rfl, ?_⟩
  rw [hstart] at g2
  have q1 := g2.time
  have q2 := g2.from_
  have q3 := g2.upto
  have q4 := g2.count
  have hrd2 : y.2.done ≤ 2199023255552 := by unfold left at hrd; omega
  have hdw : IntKind.i64.wrap (y.2.done + r.2.1) = y.2.done + r.2.1 := i64_id (by omega) (by omega)
  -- the virtual CPU ahead of the handler
  have hlog1 : LogI y.2.log (y.2.done + r.2.1) := h.log.mono (by omega)
  have hH : Handled { saveX r.1 y.2 with done := IntKind.i64.wrap ((saveX r.1 y.2).done + r.2.1) } (afterU r y.2).2 (if r.2.2.1.cause = 6 then 0 else 1) :=
    handle_ok (v := { saveX r.1 y.2 with done := IntKind.i64.wrap ((saveX r.1 y.2).done + r.2.1) }) (h.core.save r.1) (by show LogI y.2.log (IntKind.i64.wrap (y.2.done + r.2.1)); rw [hdw]; exact hlog1) (by show 0 ≤ IntKind.i64.wrap (y.2.done + r.2.1); rw [hdw]; omega)
      (by show IntKind.i64.wrap (y.2.done + r.2.1) < _; rw [hdw]; omega) g2.cause r.2.2.2
  have hdone : (afterU r y.2).2.done = y.2.done + r.2.1 + (if r.2.2.1.cause = 6 then 0 else 1) := by
    have := hH.done
    rw [this]
    show IntKind.i64.wrap (y.2.done + r.2.1) + _ = _
    rw [hdw]
  have hmore : y.2.done < (afterU r y.2).2.done := by
    rw [hdone]
    split
    · rename_i h6
      have := g2.timer h6
      omega
    · omega
  have hless : (afterU r y.2).2.done ≤ y.2.done + r.2.1 + 1 := by rw [hdone]; split <;> omega
  have hll : (afterU r y.2).2.log.length ≤ y.2.log.length + 1 := hH.logl
  have hol : (afterU r y.2).2.out.length ≤ y.2.out.length + 1 := hH.outl
  have htime : (afterU r y.2).1.time = r.2.2.2 + 1 := q1
  have hnh : x.v.halted = false := by
    rcases h.grow with rfl | ⟨_, h2⟩
    · exact hh
    · exact h2
  have hpr2 := pend1_range (afterU r y.2)
  have hleft : left x (afterU r y.2) ≤ left x y - 2 * (r.2.2.2 + 1 - y.1.time) + 1 := by
    unfold left
    rw [htime]
    omega
  refine ⟨⟨g2.halt, g2.out.trans h.out, g2.len.trans h.len, fun k hk => ?_, by rw [htime]; omega, by rw [htime]; omega, hH.core, hH.log, h.logp.trans hH.logp, h.outp.trans hH.outp, .inr ⟨by omega, hnh⟩⟩, ⟨by omega, by omega, by omega⟩, by omega⟩
  have hnw : ¬ InWin (goX x.p x.e y).core.csr k := by
    intro hw
    obtain ⟨a1, a2⟩ := hw
    have a1 : (winX x.p y.2.core).1 ≤ (k : Int) := a1
    have a2 : (k : Int) < (winX x.p y.2.core).1 + (winX x.p y.2.core).2 := a2
    rcases w3 with w3 | ⟨w3, w4⟩
    · omega
    · omega
  exact (g2.mem k hnw).trans (h.mem k hk)

theorem run_ok {x : In3} (hf : Fit x) : ∀ (f : Nat) (y : HV), Turn x y → Room2 x y → left x y < f → ∃ r, runF x.p x.e f y = some r ∧ Turn x r ∧ (r.2.halted = true ∨ x.e ≤ r.1.time) := by
  intro f
  induction f with
  | zero =>
    intro y h hr hl
    have := h.t1
    have hpr := pend1_range y
    unfold left at hl
    omega
  | succ f ih =>
    intro y h hr hl
    simp only [runF]
    cases hh : y.2.halted with
    | true => exact ⟨y, rfl, h, .inl hh⟩
    | false =>
      simp only [cond_false]
      cases ht : decide (y.1.time ≥ x.e) with
      | true => exact ⟨y, rfl, h, .inr (of_decide_eq_true ht)⟩
      | false =>
        have ht := of_decide_eq_false ht
        have hpr := pend1_range y
        have hrl := hr.log
        have hro := hr.out
        have ht1 := h.t1
        have hlens : (decide (y.2.log.length < 900000) && decide (y.2.out.length < 1000000)) = true := by
          unfold left at hrl hro
          simp
          omega
        simp only [hlens, cond_false, cond_true]
        cases hp : pendB y.2 y.1.time with
        | true =>
          simp only [cond_true]
          obtain ⟨k1, k2, k3⟩ := turn_due hf h hr hh hp
          exact ih _ k1 k2 (by omega)
        | false =>
          simp only [cond_false]
          obtain ⟨k0, k1, k2, k3⟩ := turn_run hf h hr hh (by omega) hp
          rw [k0, cond_true]
          exact ih _ k1 k2 (by omega)

theorem allEq_refl : ∀ l : List Int, allEq l l = true
  | [] => rfl
  | a :: l => by simp [allEq, allEq_refl l]

theorem sameV_refl (v : Vcpu) : sameV v v = true := by
  simp [sameV, coreEq, allEq_refl]

theorem prefix_take {α : Type} {a b : List α} (h : a <+: b) : b.take a.length = a := by
  obtain ⟨c, rfl⟩ := h
  simp

/-- The law of time slices. -/
theorem lawful {x : In3} (hf : Fit x) : Lawful x := by
  obtain ⟨he, he1, he2⟩ := hf.end_
  have f0 := hf.t0
  have f1 := hf.t1
  have fl := hf.vlog
  have fo := hf.vout
  have fd := hf.done1
  have hstart : Turn x (x.h, x.v) := ⟨hf.halt, rfl, rfl, fun _ _ => rfl, Int.le_refl _, by show x.h.time ≤ _; omega, hf.core, hf.log, List.prefix_refl _, List.prefix_refl _, .inl rfl⟩
  have hpr := pend1_range (x.h, x.v)
  have hleft : left x (x.h, x.v) ≤ 200 := by
    unfold left
    dsimp only
    omega
  obtain ⟨r, g1, g2, g3⟩ := run_ok hf fuelR (x.h, x.v) hstart ⟨by show (x.v.log.length : Int) + _ ≤ _; omega, by show (x.v.out.length : Int) + _ ≤ _; omega, by show x.v.done + _ ≤ _; omega⟩ (by show _ < ((1000 : Nat) : Int); omega)
  have hr : runR x.h x.v x.p x.q = some r := g1
  have hx : x.r = r := by
    show runX x.h x.v x.p x.q = r
    unfold runX
    rw [hr]; rfl
  have hb : x.b = r.2 := by show x.r.2 = _; rw [hx]
  have ha : x.a = finX r.1 := by show finX x.r.1 = _; rw [hx]
  have hw : IntKind.u64.wrap (x.e + 1) = x.e + 1 := u64_id (by omega) (by omega)
  have hmem := hf.mem
  have hins := hf.ins
  have hbr := inR_u32.1 hf.base
  have hsr := inR_u32.1 hf.size
  have first : x.v.halted = true → r = (x.h, x.v) := fun h => by
    rcases g2.grow with e | ⟨_, h2⟩
    · exact e
    · rw [h] at h2; cases h2
  refine ⟨by rw [hr]; rfl, ?_, ?_, ?_, ?_, ?_, ?_, ?_, ?_, ?_, ?_, ?_, ?_, ?_, ?_, ?_, ?_⟩
  · rw [hb]; have := g2.done0 hf; omega
  · intro h
    rw [hb] at h
    rcases g2.grow with e | ⟨h1, _⟩
    · subst e
      rcases g3 with g3 | g3
      · exact g3
      · have : x.e ≤ x.h.time := g3
        omega
    · omega
  · rw [ha, hw]; have := g2.t1; show ¬ r.1.time > x.e + 1; omega
  · intro h
    rw [ha] at h
    rw [hb]
    rcases g3 with g3 | g3
    · exact g3
    · have h : r.1.time < x.e := h
      omega
  · rw [ha]; have := g2.t0; show ¬ r.1.time < x.h.time; omega
  · rw [hb]
    have hd := g2.done0 hf
    have hd0 := hf.done0
    have hlog : logB r.2 = true := all_range.2 fun k hk => by
      obtain ⟨l1, l2, l3, l4⟩ := g2.log k hk
      have e1 : decide ((evAt r.2.log (k : Int)).kind < 1) = false := decide_eq_false (by omega)
      have e2 : decide ((evAt r.2.log (k : Int)).kind > 3) = false := decide_eq_false (by omega)
      have e3 : decide ((evAt r.2.log (k : Int)).at_ ≤ lastAt r.2.log k) = false := decide_eq_false (by omega)
      have e4 : decide ((evAt r.2.log (k : Int)).at_ ≥ r.2.done) = false := decide_eq_false (by omega)
      simp only [badV, e1, e2, e3, e4, cond_false, Bool.not_false]
    have c0 := g2.core.r0
    have c7 := g2.core.c7
    have c8 := g2.core.c8
    have e5 : decide (r.2.done < 0) = false := decide_eq_false (by omega)
    simp only [validB, c0, c7, c8, e5, hlog, bne_self_eq_false, cond_false]
  · rw [ha]; exact g2.len
  · rw [ha]; show r.1.mem.length < 1000000; rw [g2.len]; omega
  · rw [hb]; exact g2.outp.length_le
  · rw [hb]; exact g2.logp.length_le
  · intro k hk
    unfold In3.out
    refine bif_ind (P := fun b => b = false) (fun hne => ?_) (fun _ => rfl)
    have hin : ¬ ((k : Int) < x.p.base ∨ x.p.base + x.p.size ≤ (k : Int)) := fun hout => by
      have := g2.mem k hout
      rw [ha] at hne
      have e : pick (k : Int) (finX r.1).mem = pick (k : Int) x.h.mem := by
        show pick (k : Int) r.1.mem = _
        unfold pick
        simp only [Int.toNat_natCast]
        rw [List.getD_eq_getElem?_getD, List.getD_eq_getElem?_getD, this]
      rw [e] at hne
      simp at hne
    have e1 : IntKind.i64.wrap x.p.base = x.p.base := i64_id (by omega) (by omega)
    have e2 : IntKind.i64.wrap x.p.size = x.p.size := i64_id (by omega) (by omega)
    have e3 : IntKind.i64.wrap (x.p.base + x.p.size) = x.p.base + x.p.size := i64_id (by omega) (by omega)
    rw [e1, e2, e3]
    have e4 : decide ((k : Int) < x.p.base) = false := decide_eq_false (by omega)
    rw [e4, cond_false]
    exact decide_eq_false (by omega)
  · rw [hb]; exact prefix_take g2.outp
  · rw [hb]; exact prefix_take g2.logp
  · rw [ha]; exact g2.out
  · rw [ha]; exact g2.halt
  · intro h
    have := first h
    subst this
    rw [hb, ha]
    exact ⟨sameV_refl _, rfl⟩
end Go.Sx
end

/-
  The plain law, last part: the law's guard, read.
  Conditions: none; where the guard lets the arguments in, they fit.
-/
section
namespace Go.Sx
open Go Go.RowKit

theorem bif_true {c x : Bool} (h : (bif c then x else false) = true) : c = true ∧ x = true := by
  cases c with
  | true => exact ⟨rfl, h⟩
  | false => cases h
theorem bif_false {c x : Bool} (h : (bif c then true else x) = false) : c = false ∧ x = false := by
  cases c with
  | true => cases h
  | false => exact ⟨rfl, h⟩

theorem logI_of {v : Vcpu} (hs : v.log.length ≤ 600) (h : (List.range v.log.length).all (fun k => !bad5 v.done v.log (k : Int)) = true) : LogI v.log v.done := by
  intro k hk
  have h5 : bad5 v.done v.log (k : Int) = false := by simpa using all_range.1 h k hk
  obtain ⟨h4, h5⟩ := bif_false h5
  obtain ⟨h3, h4⟩ := bif_false h4
  obtain ⟨h2, h3⟩ := bif_false h3
  obtain ⟨h1, h2⟩ := bif_false h2
  have h1 := of_decide_eq_false h1
  have h2 := of_decide_eq_false h2
  have h3 := of_decide_eq_false h3
  have h4 := of_decide_eq_false h4
  refine ⟨by omega, by omega, ?_, by omega⟩
  cases k with
  | zero => show (-1 : Int) < _; omega
  | succ j =>
    have hp : decide (((j + 1 : Nat) : Int) > 0) = true := decide_eq_true (by omega)
    rw [hp, cond_true] at h5
    have h5 := of_decide_eq_false h5
    have hw : IntKind.i64.wrap (((j + 1 : Nat) : Int) - 1) = (j : Int) := by
      rw [i64_id (by omega) (by omega)]; omega
    rw [hw] at h5
    show (evAt v.log (j : Int)).at_ < _
    omega

theorem fit_of {x : In3} (hok : OkAs (args3 x)) (h : fitB x.h x.v x.p x.q = true) : Fit x := by
  unfold fitB at h
  obtain ⟨a1, h⟩ := bif_true h
  obtain ⟨a2, h⟩ := bif_true h
  obtain ⟨a3, h⟩ := bif_true h
  obtain ⟨a4, h⟩ := bif_true h
  obtain ⟨a5, h⟩ := bif_true h
  obtain ⟨a6, h⟩ := bif_true h
  obtain ⟨a7, h⟩ := bif_true h
  obtain ⟨_, h⟩ := bif_true h
  obtain ⟨_, a8⟩ := bif_true h
  obtain ⟨b1, b2⟩ := bif_true a1
  obtain ⟨b3, b4⟩ := bif_true a2
  obtain ⟨b5, b6⟩ := bif_true a3
  obtain ⟨c1, b6⟩ := bif_true b6
  obtain ⟨c2, b6⟩ := bif_true b6
  obtain ⟨c3, c4⟩ := bif_true b6
  have b1 := of_decide_eq_true b1
  have b2 := of_decide_eq_true b2
  have b3 := of_decide_eq_true b3
  have b4 := of_decide_eq_true b4
  have a5 := of_decide_eq_true a5
  have a6 := of_decide_eq_true a6
  have a7 := of_decide_eq_true a7
  have a8 := of_decide_eq_true a8
  have c4 := of_decide_eq_true c4
  have k1 : InR .u64 x.h.time := hok _ (by simp [args3]; exact .inl rfl) (.int .u64 x.h.time) (by simp [Ty.arg, tMach, Mach.cds])
  have k2 : InR .u32 x.p.base := hok (tPart.arg x.p) (by simp [args3]) (.int .u32 x.p.base) (by simp [Ty.arg, tPart, Part.cds])
  have k3 : InR .u32 x.p.size := hok (tPart.arg x.p) (by simp [args3]) (.int .u32 x.p.size) (by simp [Ty.arg, tPart, Part.cds])
  have k4 : InR .i64 x.q := hok ((tInt .i64).arg x.q) (by simp [args3]) (.int .i64 x.q) (by simp [Ty.arg, tInt])
  have k5 : InR .u32 x.v.core.csr.c5 := hok (tVcpu.arg x.v) (by simp [args3]) (.int .u32 x.v.core.csr.c5) (by simp [Ty.arg, tVcpu, Vcpu.cds, Core.cds, Csrs.cds])
  have k1' := inR_u64.1 k1
  have k2' := inR_u32.1 k2
  have k3' := inR_u32.1 k3
  have k4' := inR_i64.1 k4
  have k5' := inR_u32.1 k5
  have e1 : IntKind.i64.wrap x.p.base = x.p.base := i64_id (by omega) (by omega)
  have e2 : IntKind.i64.wrap x.p.size = x.p.size := i64_id (by omega) (by omega)
  have e3 : IntKind.i64.wrap (x.p.base + x.p.size) = x.p.base + x.p.size := i64_id (by omega) (by omega)
  rw [e1, e2, e3] at a8
  exact ⟨by omega, by omega, by omega, by omega, by simpa using a4, by omega, by omega, by omega, by omega, by omega, by omega, k2, k3, a8, ⟨by simpa using c1, by omega, by simpa using c2, by simpa using c3⟩, logI_of (by omega) b5⟩

/-- The law's function gives true. -/
theorem law_gives (B : Base) (x : In3) (hok : OkAs (args3 x)) : Gives tcx 3 (encArgs (args3 x) 0) (s0 (args3 x)) rsB [tBool.arg true] := v3 B x fun h => lawful (fit_of hok h)
end Go.Sx
end
