/-
  A symbolic executor for the bodies of Go functions: what it says of a whole body holds of every run.
  Conditions: none; the lemmas of the engine, put together.
-/
import Derived.Test.YtcibdpbblleafaaGreatDoorSxM
namespace Go.Sx
open Go Go.RowKit

section
variable {en : Eng} {W0 : World} {α : Type} {p : α → Prop} {ops : Array Oper} {id0 rid0 : Nat}

/-- One operation of a region that draws. -/
theorem drawEff_sound (hen : EngOk en) (hg : GlobOk en.cx W0) {s : AS} {i : Nat} {flag : Bool} {e : Eff} (h : drawEff en ops id0 rid0 s i flag = some e) (hnd : AllT e.needs) {E : Env} {a : Act} {w : World} (hT : TmpsOk E s.T a) (hm : MemR W0 E s.M s.R w)
    (hfi : E.ρ (id0 + i) = none) (hfr : ∀ j, j < rowsEach → E.σ (rid0 + rowsEach * i + j) = none) {K : Act → World → Prop} {Q : Exit → Act → World → Prop}
    (hK : ∀ v w' F, Did W0 E s.M s.R e (id0 + i) (rid0 + rowsEach * i) v w' F → K (a.put (guardT ops i) v) w') : wpOp en.cx.P ops Q i K a w := by
  unfold drawEff at h
  split at h <;> try (cases h; done)
  rename_i o ho
  have hgt : guardT ops i = o.dst := by simp [guardT, ho]
  rw [hgt] at hK
  obtain ⟨_, h⟩ := cond_none h
  unfold wpOp
  rw [ho]
  dsimp only
  have body : ∀ {fl : Bool} {e' : Eff}, bodyEff en id0 rid0 s i o fl = some e' → e'.v = e.v → e'.wr = e.wr → e'.nb = e.nb → e'.nr = e.nr → e'.only = e.only → AllT e'.needs → Region.wanted o (yielded ops a.tmps) = fl →
      (if Region.wanted o (yielded ops a.tmps) = true then o.wp en.cx.P a w K Q ∨ (o.asks en.cx.P a w ∧ LetsOut Q) else K (a.put o.dst undef) w) := by
    intro fl e' hb e1 e2 e3 e4 e5 hn hw
    rw [hw]
    have conv : ∀ {v w' F}, Did W0 E s.M s.R e' (id0 + i) (rid0 + rowsEach * i) v w' F → Did W0 E s.M s.R e (id0 + i) (rid0 + rowsEach * i) v w' F := by
      intro v w' F d
      have hM : e.appM s.M (id0 + i) = e'.appM s.M (id0 + i) := by unfold Eff.appM; rw [e2, e3]
      have hR : e.appR s.R (rid0 + rowsEach * i) = e'.appR s.R (rid0 + rowsEach * i) := by unfold Eff.appR; rw [e4, e5]
      exact ⟨d.le, d.ρ, d.σ, by rw [← e1]; exact d.v, by rw [hM, hR]; exact d.mem⟩
    cases fl with
    | false =>
      cases hb
      simp only [Bool.false_eq_true, if_false]
      exact hK undef w E (conv (Did.same hm rfl rfl rfl rfl (by simp only [Eff.pure, V])))
    | true =>
      simp only [bodyEff] at hb
      split at hb <;> try (cases hb; done)
      rename_i e'' he
      obtain ⟨_, hb⟩ := cond_none hb
      cases hb
      simp only [if_true]
      exact .inl (evOp_sound hen hg he hn hT hm hfi hfr fun v w' F d => hK v w' F (conv d))
  split at h
  · rename_i hgd
    split at h <;> try (cases h; done)
    exact body h rfl rfl rfl rfl rfl hnd (by simp [Region.wanted, hgd])
  · rename_i j want hgd
    split at h <;> try (cases h; done)
    rename_i g hgg
    split at h <;> try (cases h; done)
    · rename_i c hc
      obtain ⟨hf, h⟩ := cond_none h
      refine body h rfl rfl rfl rfl rfl hnd ?_
      rw [guard_ok hT hgd hgg (.inl hc)]
      simpa using hf
    · rename_i c hc
      split at h <;> try (cases h; done)
      rename_i e' he
      cases h
      have hf : ((c == want) == flag) = true := hnd _ (List.mem_cons_self ..)
      refine body he rfl rfl rfl rfl rfl (fun b hb => hnd b (List.mem_cons_of_mem _ hb)) ?_
      rw [guard_ok hT hgd hgg (.inr hc)]
      simpa using hf
    · rename_i hc
      split at h <;> try (cases h; done)
      exact body h rfl rfl rfl rfl rfl hnd (guard_none hT hgd hgg hc)

theorem drawEff_back {s : AS} {i : Nat} {flag : Bool} {e : Eff} (h : drawEff en ops id0 rid0 s i flag = some e) : ∃ o, ops[i]? = some o ∧ okDst s o.dst = true ∧ backB o i = true := by
  unfold drawEff at h
  split at h <;> try (cases h; done)
  rename_i o ho
  obtain ⟨hc, _⟩ := cond_none h
  simp only [Bool.and_eq_true] at hc
  exact ⟨o, ho, hc.1, hc.2⟩

/-- Where the run stands within a region that draws. -/
structure DSt (W0 : World) (id0 rid0 n : Nat) (E : Env) (s : AS) (items : List It) (a : Act) (w : World) : Prop where
  tmps : TmpsOk E s.T a
  nT : a.tmps.size = s.nT
  defers : a.defers = []
  mem : MemR W0 E s.M s.R w
  fresh : ∀ x ∈ items, E.ρ (id0 + x.i) = none ∧ ∀ j, j < rowsEach → E.σ (rid0 + rowsEach * x.i + j) = none
  free : Fresh E (id0 + n) (rid0 + rowsEach * n)
  small : ∀ x ∈ items, x.i < n

theorem draw_sound (hen : EngOk en) (hl : ∀ g S, en.summ g = some S → SummLoc S) (hg : GlobOk en.cx W0) {sf : AS} {Q : Exit → Act → World → Prop} :
    ∀ (fuel : Nat) (listed : Array Bool) (items : List It) (s : AS) (E : Env) (a : Act) (w : World), DSt W0 id0 rid0 ops.size E s items a w → listed.size = ops.size → (∀ i o, listed.getD i false = true → ops[i]? = some o → ∀ e ∈ o.after, Region.binds .any e = true → listed.getD e.on false = true) →
      (∀ i, i < ops.size → (listed.getD i true = false ↔ ∃ x ∈ items, x.i = i)) → Runs en ops id0 rid0 s items sf → items.Pairwise (fun x y => okPair ops id0 rid0 x y = true) → items.Pairwise (fun x y => x.i < y.i) → items.length ≤ fuel →
      (∀ E' a' w', E.Le E' → DSt W0 id0 rid0 ops.size E' sf [] a' w' → Q .normal a' w') → wpAny en.cx.P .any ops Q fuel listed a w := by
  intro fuel
  have done : ∀ (listed : Array Bool) (items : List It) (s : AS) (E : Env) (a : Act) (w : World), DSt W0 id0 rid0 ops.size E s items a w →
      (∀ i, i < ops.size → (listed.getD i true = false ↔ ∃ x ∈ items, x.i = i)) → listed.size = ops.size → Runs en ops id0 rid0 s items sf → items.Pairwise (fun x y => x.i < y.i) → Region.ready .any ops listed = [] → items = [] := by
    intro listed items s E a w hd hls hsz hr hinc hnil
    cases items with
    | nil => rfl
    | cons x rest =>
      exfalso
      obtain ⟨hx, _, _⟩ := hr
      obtain ⟨o, ho, _, hback⟩ := drawEff_back hx
      have hlt : x.i < ops.size := hd.small x (List.mem_cons_self ..)
      have hmem : x.i ∈ Region.ready .any ops listed := by
        rw [mem_ready]
        refine ⟨(hls x.i hlt).2 ⟨x, List.mem_cons_self .., rfl⟩, o, ho, fun e he hb => ?_⟩
        have hbk : Nat.blt e.on x.i = true := by
          have := Array.all_eq_true_iff_forall_mem.1 hback e he
          simpa [hb] using this
        have hlt2 : e.on < x.i := by unfold Nat.blt at hbk; exact Nat.le_of_ble_eq_true hbk
        have hnot : ¬ listed.getD e.on true = false := by
          intro hf
          obtain ⟨y, hy, hye⟩ := (hls e.on (by omega)).1 hf
          cases hy with
          | head => omega
          | tail _ hm =>
            have := (List.pairwise_cons.1 hinc).1 y hm
            omega
        have hin : e.on < listed.size := by omega
        simp only [Array.getD, hin, dif_pos] at hnot ⊢
        simpa using hnot
      rw [hnil] at hmem; cases hmem
  induction fuel with
  | zero =>
    intro listed items s E a w hd hsz hcl hls hr hp hinc hlen hQ
    have hnil : items = [] := List.length_eq_zero_iff.1 (by omega)
    subst hnil
    have : s = sf := hr
    subst this
    refine ⟨?_, hQ E a w (.refl E) hd⟩
    apply List.eq_nil_iff_forall_not_mem.2
    intro i hi
    obtain ⟨h0, o, ho, _⟩ := mem_ready.1 hi
    obtain ⟨x, hx, _⟩ := (hls i (Array.getElem?_eq_some_iff.1 ho).1).1 h0
    cases hx
  | succ fuel ih =>
    intro listed items s E a w hd hsz hcl hls hr hp hinc hlen hQ
    refine ⟨fun hnil => ?_, fun i hi => ?_⟩
    · have := done listed items s E a w hd hls hsz hr hinc hnil
      subst this
      have : s = sf := hr
      subst this
      exact hQ E a w (.refl E) hd
    · obtain ⟨h0, o, ho, hall⟩ := mem_ready.1 hi
      have hlt : i < ops.size := (Array.getElem?_eq_some_iff.1 ho).1
      obtain ⟨x, hx, rfl⟩ := (hls i hlt).1 h0
      obtain ⟨pre, post, rfl⟩ := List.append_of_mem hx
      have hpre : ∀ y ∈ pre, y.i ≠ x.i ∧ indep ops id0 rid0 y x = true := by
        intro y hy
        have hlt2 : y.i < x.i := (List.pairwise_append.1 hinc).2.2 y hy x (List.mem_cons_self ..)
        refine ⟨by omega, ?_⟩
        have hok := (List.pairwise_append.1 hp).2.2 y hy x (List.mem_cons_self ..)
        unfold okPair at hok
        rw [ho] at hok
        dsimp only at hok
        have contra : listed.getD y.i false = true → False := by
          intro h1
          have h2 := (hls y.i (by omega)).2 ⟨y, List.mem_append_left _ hy, rfl⟩
          have hin : y.i < listed.size := by omega
          simp only [Array.getD, hin, dif_pos] at h1 h2
          rw [h1] at h2; cases h2
        simp only [Bool.or_eq_true] at hok
        rcases hok with h | h | h
        · exact h
        · exfalso
          unfold waits at h
          obtain ⟨e, he, hb⟩ := Array.any_eq_true'.1 h
          simp only [Bool.and_eq_true] at hb
          have hon := Nat.eq_of_beq_eq_true hb.2
          have h1 := hall e he hb.1
          rw [hon] at h1
          exact contra h1
        · exfalso
          unfold waits2 at h
          obtain ⟨e, he, hb⟩ := Array.any_eq_true'.1 h
          simp only [Bool.and_eq_true] at hb
          have h1 := hall e he hb.1
          obtain ⟨_, hb2⟩ := hb
          split at hb2
          · rename_i d hd'
            unfold waits at hb2
            obtain ⟨e2, he2, hb3⟩ := Array.any_eq_true'.1 hb2
            simp only [Bool.and_eq_true] at hb3
            have hon := Nat.eq_of_beq_eq_true hb3.2
            have h3 := hcl e.on d h1 hd' e2 he2 hb3.1
            rw [hon] at h3
            exact contra h3
          · cases hb2
      obtain ⟨r1, r2, r3⟩ := take_runs hl hpre hr
      have hfresh := hd.fresh x (by simp)
      have hgt : guardT ops x.i = o.dst := by simp [guardT, ho]
      obtain ⟨o', ho', hdst, _⟩ := drawEff_back r1
      rw [ho] at ho'; cases ho'
      refine drawEff_sound hen hg r1 r2 hd.tmps hd.mem hfresh.1 hfresh.2 fun v w' F did => ?_
      have hne : ∀ y ∈ pre ++ post, y.i ≠ x.i := by
        intro y hy
        rcases List.mem_append.1 hy with h | h
        · exact (hpre y h).1
        · have := (List.pairwise_cons.1 (List.pairwise_append.1 hinc).2.1).1 y h
          omega
      have hsub : (pre ++ post).Sublist (pre ++ x :: post) := List.Sublist.append (List.Sublist.refl _) (List.sublist_cons_self ..)
      refine ih (listed.setIfInBounds x.i true) (pre ++ post) (step1 ops id0 rid0 s x) F _ w' ⟨?_, ?_, ?_, did.mem, ?_, ?_, ?_⟩ (by simpa using hsz) (fun j oj hj hoj e he hbd => ?_) (fun j hj => ?_) r3 (hp.sublist hsub) (hinc.sublist hsub) (by simp at hlen ⊢; omega) fun E' a' w2 hle hd' => hQ E' a' w2 (did.le.trans hle) hd'
      · rw [hgt]
        have := hd.tmps.put hd.nT did.le (dst := o.dst) (by unfold okDst at hdst; exact hdst) did.v
        show TmpsOk F (putT s.T (guardT ops x.i) x.e.v) _
        rw [hgt]; exact this
      · rw [put_size]; exact hd.nT
      · rw [put_defers]; exact hd.defers
      · intro y hy
        have hyx := hne y hy
        have hf := hd.fresh y (hsub.subset hy)
        refine ⟨by rw [did.ρ _ (by omega)]; exact hf.1, fun j hj => ?_⟩
        rw [did.σ _ (by unfold rowsEach at *; omega)]
        exact hf.2 j hj
      · refine ⟨fun q hq => ?_, fun q hq => ?_⟩
        · rw [did.ρ _ (by omega)]; exact hd.free.1 q hq
        · rw [did.σ _ (by unfold rowsEach at *; omega)]; exact hd.free.2 q hq
      · intro y hy
        exact hd.small y (hsub.subset hy)
      · by_cases hjx : x.i = j
        · subst hjx
          rw [ho] at hoj; cases hoj
          exact getD_set_true (hall e he hbd)
        · rw [getD_set_ne false hjx] at hj
          exact getD_set_true (hcl j oj hj hoj e he hbd)
      · by_cases hjx : x.i = j
        · subst hjx
          have hin : x.i < listed.size := by omega
          have : (listed.setIfInBounds x.i true).getD x.i true = true := by simp [hin]
          rw [this]
          exact ⟨fun h => (by cases h), fun ⟨y, hy, hyx⟩ => absurd hyx (hne y hy)⟩
        · rw [getD_set_ne true hjx, hls j hj]
          constructor
          · rintro ⟨y, hy, hyj⟩
            refine ⟨y, ?_, hyj⟩
            rcases List.mem_append.1 hy with h | h
            · exact List.mem_append_left _ h
            · cases h with
              | head => exact absurd hyj hjx
              | tail _ hm => exact List.mem_append_right _ hm
          · rintro ⟨y, hy, hyj⟩
            exact ⟨y, hsub.subset hy, hyj⟩

theorem okAll_pairwise : ∀ {l : List It}, okAll ops id0 rid0 l = true → l.Pairwise (fun x y => okPair ops id0 rid0 x y = true)
  | [], _ => List.Pairwise.nil
  | x :: l, h => by
    simp only [okAll, Bool.and_eq_true, List.all_eq_true] at h
    exact List.Pairwise.cons h.1 (okAll_pairwise h.2)

/-- The tree of a region that draws says how it runs in the order of the text. -/
theorem drawOps_runs {k : AS → Tree α} : ∀ {is : List Nat} {kn : List (Tmp × Bool)} {s : AS} {acc : List It}, (drawOps en ops id0 rid0 is kn s acc k).Holds p →
    ∃ items sf, items.map (·.i) = is ∧ Runs en ops id0 rid0 s items sf ∧ okAll ops id0 rid0 (acc.reverse ++ items) = true ∧ (k sf).Holds p
  | [], kn, s, acc, h => by
    simp only [drawOps] at h
    cases hc : okAll ops id0 rid0 acc.reverse <;> simp only [hc, cond_true, cond_false] at h
    · exact h.elim
    · exact ⟨[], s, rfl, rfl, by simpa using hc, h⟩
  | i :: rest, kn, s, acc, h => by
    simp only [drawOps] at h
    have go : ∀ (flag : Bool) (kn : List (Tmp × Bool)), (match drawEff en ops id0 rid0 s i flag with
      | some e => needsT e.needs (drawOps en ops id0 rid0 rest kn (s.app (guardT ops i) e (id0 + i) (rid0 + rowsEach * i)) (⟨i, flag, e⟩ :: acc) k)
      | none => .fail).Holds p → ∃ items sf, items.map (·.i) = i :: rest ∧ Runs en ops id0 rid0 s items sf ∧ okAll ops id0 rid0 (acc.reverse ++ items) = true ∧ (k sf).Holds p := by
      intro flag kn h
      split at h
      · rename_i e he
        obtain ⟨h1, h2⟩ := needsT_holds h
        obtain ⟨items, sf, q1, q2, q3, q4⟩ := drawOps_runs h2
        refine ⟨⟨i, flag, e⟩ :: items, sf, by simp [q1], ⟨he, h1, q2⟩, ?_, q4⟩
        simpa using q3
      · exact h.elim
    split at h
    · exact h.elim
    · split at h
      · exact go true _ h
      · split at h
        · split at h
          · exact go _ _ h
          · rename_i c hc
            split at h
            · exact go _ _ h
            · split at h <;> obtain ⟨h1, h2⟩ := h <;> cases c
              · exact go _ _ (h2 rfl)
              · exact go _ _ (h1 rfl)
              · exact go _ _ (h2 rfl)
              · exact go _ _ (h1 rfl)
          · exact go _ _ h
          · exact h.elim
        · exact h.elim

theorem range_pairwise {items : List It} {n : Nat} (h : items.map (·.i) = List.range n) : items.Pairwise (fun x y => x.i < y.i) := by
  have : (items.map (·.i)).Pairwise (· < ·) := by rw [h]; exact List.pairwise_lt_range
  exact List.pairwise_map.1 this

theorem region_draw_sound (hen : EngOk en) (hl : ∀ g S, en.summ g = some S → SummLoc S) (hg : GlobOk en.cx W0) {id : Nat} {s : AS} {E : Env} {a : Act} {w : World} {k : AS → Tree α} {Q : Exit → Act → World → Prop} (hs : St W0 E s a w)
    (h : (drawOps en ops s.nM s.nR (List.range ops.size) [] s [] fun s' => k (s'.next ops.size)).Holds p)
    (hK : ∀ s' E' a' w', E.Le E' → St W0 E' s' a' w' → (k s').Holds p → Q .normal a' w') : (Code.region id ops true).wp en.cx.P Q a w := by
  obtain ⟨items, sf, q1, q2, q3, q4⟩ := drawOps_runs h
  have hmem : ∀ i, i < ops.size ↔ ∃ x ∈ items, x.i = i := by
    intro i
    rw [← List.mem_range, ← q1, List.mem_map]
  have hnums : sf.nM = s.nM ∧ sf.nR = s.nR ∧ sf.nT = s.nT := by
    have : ∀ (items : List It) (s sf : AS), ∀ {i r}, Runs en ops i r s items sf → sf.nM = s.nM ∧ sf.nR = s.nR ∧ sf.nT = s.nT := by
      intro items
      induction items with
      | nil => intro s sf i r h; have : s = sf := h; subst this; exact ⟨rfl, rfl, rfl⟩
      | cons x items ih => intro s sf i r h; exact ih (step1 ops i r s x) sf h.2.2
    exact this _ _ _ q2
  refine wp_region_any hen.mixed (draw_sound hen hl hg (sf := sf) ops.size (Array.replicate ops.size false) items s E a _ ⟨hs.tmps, hs.nT, hs.defers, hs.mem.drew, ?_, ?_, ?_⟩ (by simp) (fun i o hi => ?_) (fun i hi => ?_) q2 (okAll_pairwise (by simpa using q3)) (range_pairwise q1) (by
    have := congrArg List.length q1; simp at this; omega) fun E' a' w' hle hd => ?_)
  · intro x hx
    exact ⟨hs.fresh.1 _ (by omega), fun j _ => hs.fresh.2 _ (by omega)⟩
  · exact ⟨fun i hi => hs.fresh.1 _ (by omega), fun i hi => hs.fresh.2 _ (by omega)⟩
  · intro x hx
    exact (hmem x.i).2 ⟨x, hx, rfl⟩
  · exfalso
    have : (Array.replicate ops.size false).getD i false = false := by
      simp only [Array.getD_eq_getD_getElem?, Array.getElem?_replicate]
      split <;> rfl
    rw [this] at hi; cases hi
  · have : (Array.replicate ops.size false).getD i true = false := by simp [hi]
    rw [this]
    exact ⟨fun _ => (hmem i).1 hi, fun _ => rfl⟩
  · refine hK (sf.next ops.size) E' a' w' hle ⟨hd.tmps, hd.nT, hd.defers, hd.mem, ?_⟩ q4
    show Fresh E' (sf.nM + ops.size) (sf.nR + rowsEach * ops.size)
    rw [hnums.1, hnums.2.1]
    exact hd.free
end
end Go.Sx
