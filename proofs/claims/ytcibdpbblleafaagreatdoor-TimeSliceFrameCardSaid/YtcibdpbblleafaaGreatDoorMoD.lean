/-
  Memory: loads and stores of one byte or four, address translation, as plain Lean functions; their summaries.
  Conditions: none; each summary holds of the program's function.
-/
import Derived.Test.YtcibdpbblleafaaGreatDoorMoC
namespace Go.Sx
open Go Go.RowKit Tree

theorem wrap_id {k : IntKind} {v : Int} (h : InR k v) : k.wrap v = v := by
  cases k <;> simp only [InR, IntKind.min, IntKind.max, IntKind.bits, IntKind.signed] at h <;> simp only [IntKind.wrap, IntKind.bits, IntKind.signed] <;> simp at h ⊢ <;> first | omega | (split <;> omega)

theorem inR_u32 {v : Int} : InR .u32 v ↔ 0 ≤ v ∧ v ≤ 4294967295 := by simp [InR, IntKind.min, IntKind.max, IntKind.bits, IntKind.signed]
theorem inR_u64 {v : Int} : InR .u64 v ↔ 0 ≤ v ∧ v ≤ 18446744073709551615 := by simp [InR, IntKind.min, IntKind.max, IntKind.bits, IntKind.signed]
theorem inR_u8 {v : Int} : InR .u8 v ↔ 0 ≤ v ∧ v ≤ 255 := by simp [InR, IntKind.min, IntKind.max, IntKind.bits, IntKind.signed]
theorem inR_i64 {v : Int} : InR .i64 v ↔ -9223372036854775808 ≤ v ∧ v ≤ 9223372036854775807 := by simp [InR, IntKind.min, IntKind.max, IntKind.bits, IntKind.signed]
theorem inR_i32 {v : Int} : InR .i32 v ↔ -2147483648 ≤ v ∧ v ≤ 2147483647 := by simp [InR, IntKind.min, IntKind.max, IntKind.bits, IntKind.signed]

def k1 : Int := IntKind.i64.wrap (0 + 1)
def k2 : Int := IntKind.i64.wrap (k1 + 1)
def k3 : Int := IntKind.i64.wrap (k2 + 1)
def ix (a k : Int) : Int := IntKind.i64.wrap (IntKind.i64.wrap a + k)
def sh (k : Int) : Int := IntKind.u64.wrap (IntKind.i64.wrap (8 * k))
def inRangeB (l : List Int) (a n : Int) : Bool := decide (IntKind.u64.wrap (IntKind.u64.wrap a + IntKind.u64.wrap n) ≤ IntKind.u64.wrap (l.length : Int))
def ldB (l : List Int) (a k : Int) : Int := shlI .u32 (IntKind.u32.wrap (pick (ix a k) l)) (sh k)
def ld1 (l : List Int) (a : Int) : Int := bor .u32 0 (ldB l a 0)
def ld4 (l : List Int) (a : Int) : Int := bor .u32 (bor .u32 (bor .u32 (bor .u32 0 (ldB l a 0)) (ldB l a k1)) (ldB l a k2)) (ldB l a k3)
def stB (v k : Int) : Int := IntKind.u8.wrap (shrI .u32 v (sh k))
def st1 (l : List Int) (a v : Int) : List Int := l.set (ix a 0).toNat (stB v 0)
def st4 (l : List Int) (a v : Int) : List Int := (((l.set (ix a 0).toNat (stB v 0)).set (ix a k1).toNat (stB v k1)).set (ix a k2).toNat (stB v k2)).set (ix a k3).toNat (stB v k3)
def loadM (l : List Int) (a n : Int) : Int := bif inRangeB l a n then (bif n == 4 then ld4 l a else ld1 l a) else 0
def storeM (l : List Int) (a n v : Int) : List Int := bif inRangeB l a n then (bif n == 4 then st4 l a v else st1 l a v) else l
def oneFour (n : Int) : Bool := n == 4 || n == 1

theorem ix_eq {a k : Int} (ha : InR .u32 a) (h0 : 0 ≤ k) (h1 : k ≤ 3) : ix a k = a + k := by
  rw [inR_u32] at ha
  unfold ix
  rw [wrap_id (k := .i64) (v := a) (inR_i64.2 (by omega)), wrap_id (inR_i64.2 (by omega))]

theorem inRangeB_spec {l : List Int} {a n : Int} (ha : InR .u32 a) (hn0 : 0 ≤ n) (hn1 : n ≤ 4) (hl : l.length < 4611686018427387904) : inRangeB l a n = decide (a + n ≤ (l.length : Int)) := by
  rw [inR_u32] at ha
  unfold inRangeB
  rw [wrap_id (k := .u64) (v := a) (inR_u64.2 (by omega)), wrap_id (k := .u64) (v := n) (inR_u64.2 (by omega)), wrap_id (k := .u64) (v := a + n) (inR_u64.2 (by omega)), wrap_id (k := .u64) (v := (l.length : Int)) (inR_u64.2 (by omega))]

theorem k_vals : k1 = 1 ∧ k2 = 2 ∧ k3 = 3 := by decide
theorem sh_pos (k : Int) : decide (0 ≤ sh k) = true := u64_pos _

def S112 : Summ := mkSumm [tBytes.sig, (tInt .u32).sig, (tInt .i64).sig] (sp3 tBytes (tInt .u32) (tInt .i64) fun l a n => ([oneFour n], [(tInt .u32).arg (loadM l a n), tBool.arg (inRangeB l a n)]))
def S117 : Summ := mkSumm [tBytes.sig, (tInt .u32).sig, (tInt .i64).sig, (tInt .u32).sig] (sp4 tBytes (tInt .u32) (tInt .i64) (tInt .u32) fun l a n v => ([oneFour n, decide (l.length < 1000000)], [tBytes.arg (storeM l a n v), tBool.arg (inRangeB l a n)]))

abbrev ndIx (l : List Int) (a k : Int) (t : Tree (Option (List Arg))) : Tree (Option (List Arg)) := need (decide (0 ≤ ix a k)) (need (decide (ix a k < (l.length : Int))) t)

theorem t112_1 (l : List Int) (a : Int) : rfK [] 2 112 [tBytes.arg l, (tInt .u32).arg a, (tInt .i64).arg 1] [(tInt .u32).sig, tBool.sig] =
    br (!inRangeB l a 1) (leaf (some [(tInt .u32).arg 0, tBool.arg false])) (ndIx l a 0 (need (decide (0 ≤ sh 0)) (leaf (some [(tInt .u32).arg (ld1 l a), tBool.arg true])))) := by kernel_rfl
theorem t112_4 (l : List Int) (a : Int) : rfK [] 2 112 [tBytes.arg l, (tInt .u32).arg a, (tInt .i64).arg 4] [(tInt .u32).sig, tBool.sig] =
    br (!inRangeB l a 4) (leaf (some [(tInt .u32).arg 0, tBool.arg false])) (ndIx l a 0 (need (decide (0 ≤ sh 0)) (ndIx l a k1 (need (decide (0 ≤ sh k1)) (ndIx l a k2 (need (decide (0 ≤ sh k2)) (ndIx l a k3 (need (decide (0 ≤ sh k3))
      (leaf (some [(tInt .u32).arg (ld4 l a), tBool.arg true])))))))))) := by kernel_rfl

theorem t117_1 (l : List Int) (a v : Int) : rfK [] 2 117 [tBytes.arg l, (tInt .u32).arg a, (tInt .i64).arg 1, (tInt .u32).arg v] [tBytes.sig, tBool.sig] =
    br (!inRangeB l a 1) (leaf (some [tBytes.arg l, tBool.arg false])) (need (decide (0 < l.length)) (need (decide (0 < l.length)) (need (decide (l.length < 1000000))
      (need (decide (0 ≤ sh 0)) (ndIx l a 0 (leaf (some [tBytes.arg (st1 l a v), tBool.arg true]))))))) := by kernel_rfl
theorem t117_4 (l : List Int) (a v : Int) : rfK [] 2 117 [tBytes.arg l, (tInt .u32).arg a, (tInt .i64).arg 4, (tInt .u32).arg v] [tBytes.sig, tBool.sig] =
    br (!inRangeB l a 4) (leaf (some [tBytes.arg l, tBool.arg false])) (need (decide (0 < l.length)) (need (decide (0 < l.length)) (need (decide (l.length < 1000000))
      (need (decide (0 ≤ sh 0)) (ndIx l a 0 (need (decide (0 ≤ sh k1)) (ndIx (l.set (ix a 0).toNat (stB v 0)) a k1 (need (decide (0 ≤ sh k2)) (ndIx ((l.set (ix a 0).toNat (stB v 0)).set (ix a k1).toNat (stB v k1)) a k2
        (need (decide (0 ≤ sh k3)) (ndIx (((l.set (ix a 0).toNat (stB v 0)).set (ix a k1).toNat (stB v k1)).set (ix a k2).toNat (stB v k2)) a k3 (leaf (some [tBytes.arg (st4 l a v), tBool.arg true])))))))))))))  := by kernel_rfl

theorem ndIx_ok {l l' : List Int} {a k n : Int} {t : Tree (Option (List Arg))} {p : Option (List Arg) → Prop} (ha : InR .u32 a) (h0 : 0 ≤ k) (h1 : k ≤ 3) (hk : k < n) (hl : l'.length = l.length) (h : a + n ≤ (l.length : Int)) (ht : t.Holds p) : (ndIx l' a k t).Holds p := by
  have := ix_eq ha h0 h1
  rw [inR_u32] at ha
  refine ⟨?_, ?_, ht⟩
  · rw [this]; simp; omega
  · rw [this, hl]; simp; omega

theorem okInt {l : List Arg} {k : IntKind} {v : Int} (h : OkAs l) (hm : (tInt k).arg v ∈ l) : InR k v := h _ hm (.int k v) (by simp [Ty.arg, tInt])
theorem okBytes {l : List Arg} {v : List Int} (h : OkAs l) (hm : tBytes.arg v ∈ l) : (∀ x ∈ v, InR .u8 x) ∧ v.length < 4611686018427387904 := h _ hm (.bytes v) (by simp [Ty.arg, tBytes])

theorem oneFour_cases {n : Int} (h : oneFour n = true) : n = 4 ∨ n = 1 := by simpa [oneFour] using h

theorem h112_4 (l : List Int) (a : Int) (ha : InR .u32 a) (hl : l.length < 4611686018427387904) :
    Says (rfK [] 2 112 [tBytes.arg l, (tInt .u32).arg a, (tInt .i64).arg 4] [(tInt .u32).sig, tBool.sig]) (· = some [(tInt .u32).arg (loadM l a 4), tBool.arg (inRangeB l a 4)]) := ⟨by
  rw [t112_4]
  have hr := inRangeB_spec (n := 4) ha (by omega) (by omega) hl
  obtain ⟨e1, e2, e3⟩ := k_vals
  refine ⟨fun h => ?_, fun h => ?_⟩
  · simp only [Bool.not_eq_true'] at h
    show _ = _
    simp only [loadM, h, cond_false]
  · simp only [Bool.not_eq_false'] at h
    have hle : a + 4 ≤ (l.length : Int) := by rw [hr] at h; simpa using h
    refine ndIx_ok (n := 4) ha (by omega) (by omega) (by omega) rfl hle ⟨sh_pos _, ndIx_ok (n := 4) ha (by omega) (by omega) (by omega) rfl hle ⟨sh_pos _, ndIx_ok (n := 4) ha (by omega) (by omega) (by omega) rfl hle ⟨sh_pos _, ndIx_ok (n := 4) ha (by omega) (by omega) (by omega) rfl hle ⟨sh_pos _, ?_⟩⟩⟩⟩
    show _ = _
    simp only [loadM, h, cond_true]; rfl⟩
theorem h112_1 (l : List Int) (a : Int) (ha : InR .u32 a) (hl : l.length < 4611686018427387904) :
    Says (rfK [] 2 112 [tBytes.arg l, (tInt .u32).arg a, (tInt .i64).arg 1] [(tInt .u32).sig, tBool.sig]) (· = some [(tInt .u32).arg (loadM l a 1), tBool.arg (inRangeB l a 1)]) := ⟨by
  rw [t112_1]
  have hr := inRangeB_spec (n := 1) ha (by omega) (by omega) hl
  refine ⟨fun h => ?_, fun h => ?_⟩
  · simp only [Bool.not_eq_true'] at h
    show _ = _
    simp only [loadM, h, cond_false]
  · simp only [Bool.not_eq_false'] at h
    have hle : a + 1 ≤ (l.length : Int) := by rw [hr] at h; simpa using h
    refine ndIx_ok (n := 1) ha (by omega) (by omega) (by omega) rfl hle ⟨sh_pos _, ?_⟩
    show _ = _
    simp only [loadM, h, cond_true]; rfl⟩
theorem h112 (l : List Int) (a n : Int) (hok : OkAs [tBytes.arg l, (tInt .u32).arg a, (tInt .i64).arg n]) (hnd : AllT [oneFour n]) :
    Says (rfK [] 2 112 [tBytes.arg l, (tInt .u32).arg a, (tInt .i64).arg n] [(tInt .u32).sig, tBool.sig]) (· = some [(tInt .u32).arg (loadM l a n), tBool.arg (inRangeB l a n)]) :=
  (oneFour_cases (hnd _ (List.mem_cons_self ..))).elim (fun e => e ▸ h112_4 l a (okInt hok (by simp)) (okBytes hok (v := l) (by simp)).2) (fun e => e ▸ h112_1 l a (okInt hok (by simp)) (okBytes hok (v := l) (by simp)).2)
theorem o112 (B : Base) : SummOk tcx 112 S112 := summ3K B Good.nil 2 h112 (by kernel_rfl)

theorem h117_4 (l : List Int) (a v : Int) (ha : InR .u32 a) (hl : l.length < 4611686018427387904) (hsm : decide (l.length < 1000000) = true) :
    Says (rfK [] 2 117 [tBytes.arg l, (tInt .u32).arg a, (tInt .i64).arg 4, (tInt .u32).arg v] [tBytes.sig, tBool.sig]) (· = some [tBytes.arg (storeM l a 4 v), tBool.arg (inRangeB l a 4)]) := ⟨by
  have ha' := inR_u32.1 ha
  rw [t117_4]
  have hr := inRangeB_spec (n := 4) ha (by omega) (by omega) hl
  obtain ⟨e1, e2, e3⟩ := k_vals
  refine ⟨fun h => ?_, fun h => ?_⟩
  · simp only [Bool.not_eq_true'] at h
    show _ = _
    simp only [storeM, h, cond_false]
  · simp only [Bool.not_eq_false'] at h
    have hle : a + 4 ≤ (l.length : Int) := by rw [hr] at h; simpa using h
    have hpos : decide (0 < l.length) = true := by simp; omega
    refine ⟨hpos, hpos, hsm, sh_pos _, ndIx_ok (n := 4) ha (by omega) (by omega) (by omega) rfl hle ⟨sh_pos _, ndIx_ok (l := l) (n := 4) ha (by omega) (by omega) (by omega) (by simp) hle ⟨sh_pos _, ndIx_ok (l := l) (n := 4) ha (by omega) (by omega) (by omega) (by simp) hle ⟨sh_pos _, ndIx_ok (l := l) (n := 4) ha (by omega) (by omega) (by omega) (by simp) hle ?_⟩⟩⟩⟩
    show _ = _
    simp only [storeM, h, cond_true]; rfl⟩
theorem h117_1 (l : List Int) (a v : Int) (ha : InR .u32 a) (hl : l.length < 4611686018427387904) (hsm : decide (l.length < 1000000) = true) :
    Says (rfK [] 2 117 [tBytes.arg l, (tInt .u32).arg a, (tInt .i64).arg 1, (tInt .u32).arg v] [tBytes.sig, tBool.sig]) (· = some [tBytes.arg (storeM l a 1 v), tBool.arg (inRangeB l a 1)]) := ⟨by
  have ha' := inR_u32.1 ha
  rw [t117_1]
  have hr := inRangeB_spec (n := 1) ha (by omega) (by omega) hl
  refine ⟨fun h => ?_, fun h => ?_⟩
  · simp only [Bool.not_eq_true'] at h
    show _ = _
    simp only [storeM, h, cond_false]
  · simp only [Bool.not_eq_false'] at h
    have hle : a + 1 ≤ (l.length : Int) := by rw [hr] at h; simpa using h
    have hpos : decide (0 < l.length) = true := by simp; omega
    refine ⟨hpos, hpos, hsm, sh_pos _, ndIx_ok (n := 1) ha (by omega) (by omega) (by omega) rfl hle ?_⟩
    show _ = _
    simp only [storeM, h, cond_true]; rfl⟩
theorem h117 (l : List Int) (a n v : Int) (hok : OkAs [tBytes.arg l, (tInt .u32).arg a, (tInt .i64).arg n, (tInt .u32).arg v]) (hnd : AllT [oneFour n, decide (l.length < 1000000)]) :
    Says (rfK [] 2 117 [tBytes.arg l, (tInt .u32).arg a, (tInt .i64).arg n, (tInt .u32).arg v] [tBytes.sig, tBool.sig]) (· = some [tBytes.arg (storeM l a n v), tBool.arg (inRangeB l a n)]) :=
  (oneFour_cases (hnd _ (List.mem_cons_self ..))).elim (fun e => e ▸ h117_4 l a v (okInt hok (by simp)) (okBytes hok (v := l) (by simp)).2 (hnd _ (by simp))) (fun e => e ▸ h117_1 l a v (okInt hok (by simp)) (okBytes hok (v := l) (by simp)).2 (hnd _ (by simp)))
theorem o117 (B : Base) : SummOk tcx 117 S117 := summ4K B Good.nil 2 h117 (by kernel_rfl)
end Go.Sx
