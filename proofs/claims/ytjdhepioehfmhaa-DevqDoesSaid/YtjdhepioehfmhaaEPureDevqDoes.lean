/- The law DevqDoes of its plain function. -/
import Derived.Test.YtjdhepioehfmhaaEP14s
import Derived.Test.YtjdhepioehfmhaaEP14t
import Derived.Test.YtjdhepioehfmhaaEP14k
namespace Go.Proofs.Ytjdhepioehfmhaa
open Go.Aq Go.IntWalk
set_option linter.unusedVariables false
/-- The document's queue: as devq's, but for what was given back since. -/
def setE (q : TQ) (e : Int) : TQ := (q.1, q.2.1, q.2.2.1, q.2.2.2.1, e, q.2.2.2.2.2)
theorem chainR_setE (b : List Int) (q : TQ) (e : Int) : ∀ (m : Nat) (L : List D4) (d : D4) (s : Int × Bool), chainR b (setE q e) m L d s = chainR b q m L d s := by
  intro m
  induction m with
  | zero => intro L d s; rfl
  | succ m ih => intro L d s; unfold chainR; rw [ih]; rfl
theorem nextR_setE (b : List Int) (q : TQ) (e : Int) : nextR (setE q e) b = ((nextR q b).1, setE (nextR q b).2 e) := by
  unfold nextR
  rw [chainR_setE]
  show (if q.2.2.2.2.2.2 = true then _ else if q.2.2.2.2.2.1 ≥ q.1.2.1 then _ else if availP (rdD b (q.1.1 + 16 * q.2.1.1)).2.2.2 q.2.1.2 = true then _ else _) = _
  by_cases h1 : q.2.2.2.2.2.2 = true
  · rw [if_pos h1, if_pos h1]
  · rw [if_neg h1, if_neg h1]
    by_cases h2 : q.2.2.2.2.2.1 ≥ q.1.2.1
    · rw [if_pos h2, if_pos h2]
    · rw [if_neg h2, if_neg h2]
      by_cases h3 : availP (rdD b (q.1.1 + 16 * q.2.1.1)).2.2.2 q.2.1.2 = true
      · rw [if_pos h3, if_pos h3]
        show (match chainR b q 64 [rdD b (q.1.1 + 16 * q.2.1.1)] (rdD b (q.1.1 + 16 * q.2.1.1)) q.2.1 with | none => _ | some c => _) = _
        cases chainR b q 64 [rdD b (q.1.1 + 16 * q.2.1.1)] (rdD b (q.1.1 + 16 * q.2.1.1)) q.2.1 <;> rfl
      · rw [if_neg h3, if_neg h3]
theorem nextR_since (b : List Int) (q : TQ) : (nextR q b).2.2.2.2.2.1 = q.2.2.2.2.1 := by
  unfold nextR
  split
  · rfl
  · split
    · rfl
    · split
      · split <;> rfl
      · rfl
structure Rel (n : Nat) (l : TL) (q : TQ) (g : TM) (e : Int) (h : TR) (i m : Nat) : Prop where
  okg : okM g
  len : g.1.length = n
  okq : OkQ q n
  lay : q.1 = l
  since : q.2.2.2.2.1 = min e (2 * q.1.2.1)
  rng : 0 ≤ e ∧ e ≤ 40000 * (i : Int)
  same : h.1 = strOf g.1
  log : h.2.2.length ≤ m
abbrev RLT := Int → Int → Int → Int → Int → Int → Int → Bool → Int → Bool → Int → Bool → Int → Int → Bool → Int → Int → Int → Int → Int → Bool → Int → Bool → Int → Bool → Int → Int → Bool → List Int → List (Int × Int × Int × Bool) → ByteArray → Int → List (Int × Int × Int × Bool) → O Bool
def L8 (R : RLT) (i : Int) (q : TQ) (g : TM) (qr : TQ) (h : TR) : O Bool :=
  R i g.2.1 q.1.1 q.1.2.1 q.1.2.2.1 q.1.2.2.2 q.2.1.1 q.2.1.2 q.2.2.1.1 q.2.2.1.2 q.2.2.2.1.1 q.2.2.2.1.2 q.2.2.2.2.1 q.2.2.2.2.2.1 q.2.2.2.2.2.2 qr.1.1 qr.1.2.1 qr.1.2.2.1 qr.1.2.2.2 qr.2.1.1 qr.2.1.2 qr.2.2.1.1 qr.2.2.1.2 qr.2.2.2.1.1 qr.2.2.2.1.2 qr.2.2.2.2.1 qr.2.2.2.2.2.1 qr.2.2.2.2.2.2 g.1 g.2.2 h.1 h.2.1 h.2.2
abbrev A0 (a0 : Int × TL × List TOp) (i : Int) : TOp := gt ((0 : Int), (0 : Int), (0 : Int), (0 : Int), (0 : Int), (0 : Int), ByteArray.empty, (0 : Int), (0 : Int), (0 : Int), false, (0 : Int), false) a0.2.2 i
section
variable (a0 : Int × TL × List TOp) (R : RLT) (i n : Nat) (hi : i < 100) (hn : n ≤ 2048)
variable (HR : ∀ (q : TQ) (g : TM) (e : Int) (h : TR), Rel n a0.2.1 q g e h (i + 1) (3 * (i + 1)) → L8 R ((i : Int) + 1) q g (setE q e) h = .ok true)
include hi hn HR
theorem ends_S (q : TQ) (g : TM) (e : Int) (h : TR) (hr : Rel n a0.2.1 q g e h (i + 1) (3 * (i + 1))) (q2 : TQ) (hq2 : q2 = setE q e) (T : O Bool)
    (hT : T = O.cond (decide (strOf g.1 ≠ h.1)) (.ok false) (O.cond (decide (q.2.2.2.2.2.2 ≠ q2.2.2.2.2.2.2)) (.ok false) (O.cond (decide (q.2.2.2.2.2.1 ≠ q2.2.2.2.2.2.1)) (.ok false) (L8 R (IntKind.i64.wrap ((i : Int) + 1)) q g q2 h)))) : T = .ok true := by
  subst hq2
  have _ := hn
  rw [hT, O.cond_neg (by rw [hr.same]; simp), O.cond_neg (by simp [setE]), O.cond_neg (by simp [setE]), i64_in _ (by omega)]
  exact HR q g e h hr
theorem next_case (q : TQ) (g : TM) (e : Int) (h : TR) (hr : Rel n a0.2.1 q g e h i (3 * i + 1)) (T : O Bool)
    (hT : T = O.bind (F_devq_Queue_Next.S 400 q g) fun r284 => O.bind (F_aqueductref14_Queue_Next.S 400 (setE q e) h) fun r285 =>
      O.cond (decide (r284.1.2.1 ≠ r285.1.2.1)) (.ok false) (O.cond (decide (r284.1.2.2 ≠ r285.1.2.2)) (.ok false) (O.bind (F_aqueductref14_Same.S 400 r284.1.1 r285.1.1) fun r286 =>
      O.cond (!r286) (.ok false) (F_aqueductlaw14_DevqDoes.l10 400 a0 (i : Int) r284 r285 r286 R 400 (0 : Int) r284.1.1.2.2)))) : T = .ok true := by
  have hlen := hr.len
  obtain ⟨r, h1, p1, p2, p3⟩ := Next_S 400 (by omega) q g hr.okg (by rw [hlen]; exact hr.okq)
  have hp := nextR_ok q g.1 (by rw [hlen]; exact hr.okq)
  have hc := rNext_S 400 (by omega) (setE q e) g.1 h hr.same ⟨by rw [hlen]; exact hr.okq.l, by omega, hr.okq.next, hr.okq.out⟩
  rw [nextR_setE, ← p1, ← p2] at hc
  rw [← p1, ← p2, hlen] at hp
  have hsn := nextR_since g.1 q
  rw [← p2] at hsn
  rw [hT, h1, O.bind_ok, hc, O.bind_ok, O.cond_neg (by simp), O.cond_neg (by simp), Same14_refl _ _ hp.2.2 (by omega), O.bind_ok]
  show O.cond false _ _ = _
  rw [O.cond_false]
  have nr : Rel n a0.2.1 r.2.1 r.2.2 e h (i + 1) (3 * (i + 1)) := ⟨sameM_ok hr.okg p3, by rw [p3.1, hlen], hp.1, hp.2.1.trans hr.lay, by rw [hsn, hp.2.1]; exact hr.since, by have := hr.rng; omega, by rw [hr.same, p3.1], by have := hr.log; omega⟩
  have lp : ∀ (m j f : Nat) (L : List P3), j + m = L.length → m < f → L.length ≤ 64 → F_aqueductlaw14_DevqDoes.l10 400 a0 (i : Int) r (r.1, (setE r.2.1 e, h)) true R f (j : Int) L = .ok true := by
    intro m
    induction m with
    | zero =>
      intro j f L hj hf hL
      obtain ⟨f, rfl⟩ : ∃ i, f = i + 1 := ⟨f - 1, by omega⟩
      show F_aqueductlaw14_DevqDoes.l10_b 400 a0 (i : Int) r (r.1, (setE r.2.1 e, h)) true R _ _ _ = _
      unfold F_aqueductlaw14_DevqDoes.l10_b
      rw [O.cond_neg (by omega), O.cond_false]
      exact ends_S a0 R i n hi hn HR r.2.1 r.2.2 e h nr (setE r.2.1 e) rfl _ rfl
    | succ m ih =>
      intro j f L hj hf hL
      obtain ⟨f, rfl⟩ : ∃ i, f = i + 1 := ⟨f - 1, by omega⟩
      show F_aqueductlaw14_DevqDoes.l10_b 400 a0 (i : Int) r (r.1, (setE r.2.1 e, h)) true R _ _ _ = _
      unfold F_aqueductlaw14_DevqDoes.l10_b
      have hl : (su L (j : Int) ((0 : Int), (0 : Int), false)).length = L.length := by unfold su; rw [List.length_set]
      rw [O.cond_pos (by omega), O.chk_dec (by omega), O.chk_dec (by omega), i64_in ((j : Int) + 1) (by omega)]
      exact ih (j + 1) f _ (by omega) (by omega) (by omega)
  exact lp _ 0 400 r.1.1.2.2 (Nat.zero_add _) (by have := hp.2.2; omega) hp.2.2
theorem done_case (id c wr : Int) (q : TQ) (g : TM) (e : Int) (h : TR) (hr : Rel n a0.2.1 q g e h i (3 * i + 1)) (T : O Bool)
    (hT : T = O.bind (F_devq_Queue_Done.S 400 id c wr q g) fun r289 => O.bind (F_aqueductref14_Queue_Done.S 400 id c wr (setE q e) h) fun r290 =>
      O.cond (decide (r289.1 ≠ r290.1)) (.ok false) (O.cond (decide (strOf r289.2.2.1 ≠ r290.2.2.1)) (.ok false) (O.cond (decide (r289.2.1.2.2.2.2.2.2 ≠ r290.2.1.2.2.2.2.2.2)) (.ok false) (O.cond (decide (r289.2.1.2.2.2.2.2.1 ≠ r290.2.1.2.2.2.2.2.1)) (.ok false) (L8 R (IntKind.i64.wrap ((i : Int) + 1)) r289.2.1 r289.2.2 r290.2.1 r290.2.2))))) : T = .ok true := by
  have hlen := hr.len
  have oo := hr.okq.out; have oh := hr.okq.l.hi
  by_cases hb : q.2.2.2.2.2.2 = true ∨ ¬ (0 ≤ id ∧ id ≤ 65535 ∧ 1 ≤ c ∧ c ≤ q.2.2.2.2.2.1 ∧ 0 ≤ wr ∧ wr ≤ 4294967295)
  · rw [hT, Done_bad _ _ _ _ _ _ hb, O.bind_ok, rDone_bad _ _ _ _ (setE q e) _ hb, O.bind_ok, O.cond_neg (fun x => x rfl)]
    exact ends_S a0 R i n hi hn HR q g e h ⟨hr.okg, hr.len, hr.okq, hr.lay, hr.since, by have := hr.rng; omega, hr.same, by have := hr.log; omega⟩ (setE q e) rfl _ rfl
  · have hb1 : q.2.2.2.2.2.2 = false := by cases hx : q.2.2.2.2.2.2 with | true => exact absurd (Or.inl hx) hb | false => rfl
    have hv : 0 ≤ id ∧ id ≤ 65535 ∧ 1 ≤ c ∧ c ≤ q.2.2.2.2.2.1 ∧ 0 ≤ wr ∧ wr ≤ 4294967295 := by
      apply Classical.byContradiction; intro x; exact hb (Or.inr x)
    obtain ⟨r, hr1, d1, d2, d3, d4, d5⟩ := Done_S 400 (by omega) id c wr q g hr.okg (by rw [hlen]; exact hr.okq) hb1 ⟨hv.1, hv.2.1⟩ ⟨hv.2.2.1, hv.2.2.2.1⟩ ⟨hv.2.2.2.2.1, hv.2.2.2.2.2⟩
    obtain ⟨s, hs1, s1, s2, s3, s4⟩ := rDone_S 400 id c wr (setE q e) g.1 h hr.same (by rw [hlen]; exact hr.okq.l) (by omega) hr.okq.back hr.okq.out.2 (by have := hr.rng; show 0 ≤ e ∧ e ≤ 100000000; omega) hb1 ⟨hv.1, hv.2.1⟩ ⟨hv.2.2.1, hv.2.2.2.1⟩ ⟨hv.2.2.2.2.1, hv.2.2.2.2.2⟩ (by have := hr.log; omega) (by omega)
    have or := hr.okq.l.ring; have bk := hr.okq.back; have sc := hr.okq.since; have hss := hr.since; have he := hr.rng
    have hq2 : s.2.1 = setE (doneQ q c) (e + c) := by
      rw [s2]; unfold doneQ setE; simp only; rw [hb1]
    have hl2 : r.2.2.1.length = n := by rw [d3, doneB_len _ _ _ _ _ (by omega), hlen]
    have nr : Rel n a0.2.1 (doneQ q c) r.2.2 (e + c) s.2.2 (i + 1) (3 * (i + 1)) := by
      refine ⟨d5, hl2, ⟨hr.okq.l, hr.okq.next, nextSp_in _ _ _ bk (by omega), hr.okq.told, ?_, ?_⟩, hr.lay, ?_, by omega, by rw [s3, d3]; rfl, by have := hr.log; omega⟩
      · show 0 ≤ min (q.2.2.2.2.1 + c) (2 * q.1.2.1) ∧ min (q.2.2.2.2.1 + c) (2 * q.1.2.1) ≤ 2 * q.1.2.1; omega
      · show 0 ≤ q.2.2.2.2.2.1 - c ∧ q.2.2.2.2.2.1 - c ≤ q.1.2.1; omega
      · show min (q.2.2.2.2.1 + c) (2 * q.1.2.1) = min (e + c) (2 * q.1.2.1); omega
    rw [hT, hr1, O.bind_ok, hs1, O.bind_ok, O.cond_neg (by rw [d1, s1]; simp), d2, hq2]
    exact ends_S a0 R i n hi hn HR (doneQ q c) r.2.2 (e + c) s.2.2 nr _ rfl _ rfl
theorem tell_case (q : TQ) (g : TM) (e : Int) (h : TR) (hr : Rel n a0.2.1 q g e h i (3 * i + 1)) (T : O Bool)
    (hT : T = O.bind (F_devq_Queue_Tell.S 400 q g) fun r291 => O.bind (F_aqueductref14_Queue_Tell.S 400 (setE q e) h) fun r292 =>
      O.cond (decide (r291.1 ≠ r292.1)) (.ok false) (O.cond (decide (strOf r291.2.2.1 ≠ r292.2.2.1)) (.ok false) (O.cond (decide (r291.2.1.2.2.2.2.2.2 ≠ r292.2.1.2.2.2.2.2.2)) (.ok false) (O.cond (decide (r291.2.1.2.2.2.2.2.1 ≠ r292.2.1.2.2.2.2.2.1)) (.ok false) (L8 R (IntKind.i64.wrap ((i : Int) + 1)) r291.2.1 r291.2.2 r292.2.1 r292.2.2))))) : T = .ok true := by
  have hlen := hr.len
  cases hb : q.2.2.2.2.2.2 with
  | true =>
    have e1 : F_devq_Queue_Tell.S 400 q g = .ok (false, (q, g)) := by unfold F_devq_Queue_Tell.S; rw [hb, O.cond_true]
    have e2 : F_aqueductref14_Queue_Tell.S 400 (setE q e) h = .ok (false, (setE q e, h)) := by
      unfold F_aqueductref14_Queue_Tell.S F_aqueductref14_Queue_Tell.top
      rw [show (setE q e).2.2.2.2.2.2 = true from hb, O.cond_true]
    rw [hT, e1, O.bind_ok, e2, O.bind_ok, O.cond_neg (by simp)]
    exact ends_S a0 R i n hi hn HR q g e h ⟨hr.okg, hr.len, hr.okq, hr.lay, hr.since, by have := hr.rng; omega, hr.same, by have := hr.log; omega⟩ (setE q e) rfl _ rfl
  | false =>
    obtain ⟨r, h1, p1, p2, p3⟩ := Tell_S 400 (by omega) q g hr.okg (by rw [hlen]; exact hr.okq) hb
    have e2 := rTell_S 400 (setE q e) g.1 h hr.same (by rw [hlen]; exact hr.okq.l) (by omega) hr.okq.told hr.okq.back hb (by omega)
    have ol := hr.okq.l.lo
    have et : tellP (setE q e) g.1 = tellP q g.1 := by
      unfold tellP
      have hs := hr.since
      by_cases c : e > q.1.2.1
      · rw [if_pos (show (setE q e).2.2.2.2.1 > (setE q e).1.2.1 from c), if_pos (by omega)]; rfl
      · rw [if_neg (show ¬ (setE q e).2.2.2.2.1 > (setE q e).1.2.1 from c), if_neg (by omega)]; rfl
    have nr : Rel n a0.2.1 (toldQ q) r.2.2 0 h (i + 1) (3 * (i + 1)) := by
      refine ⟨sameM_ok hr.okg p3, by rw [p3.1, hlen], ⟨hr.okq.l, hr.okq.next, hr.okq.back, hr.okq.back, ?_, hr.okq.out⟩, hr.lay, ?_, by omega, by rw [hr.same, p3.1], by have := hr.log; omega⟩
      · show (0 : Int) ≤ 0 ∧ 0 ≤ 2 * q.1.2.1; omega
      · show (0 : Int) = min 0 (2 * q.1.2.1); omega
    rw [hT, h1, O.bind_ok, e2, O.bind_ok, et, O.cond_neg (by rw [p1]; simp), p2]
    exact ends_S a0 R i n hi hn HR (toldQ q) r.2.2 0 h nr _ rfl _ rfl
theorem ask_case (x : Int × Bool × Int) (hx : x.2.2 ≤ 9223372036854775807) (q : TQ) (g : TM) (e : Int) (h : TR) (hr : Rel n a0.2.1 q g e h i (3 * i + 1)) (T : O Bool)
    (hT : T = O.cond q.2.2.2.2.2.2 (O.bind (F_aqueductref14_Queue_Ask.S 400 x (setE q e) h) fun r293 => O.cond (decide ((141 : Int) ≠ r293.1)) (.ok false) (O.cond (decide (strOf g.1 ≠ r293.2.2.1)) (.ok false) (O.cond (decide (q.2.2.2.2.2.2 ≠ r293.2.1.2.2.2.2.2.2)) (.ok false) (O.cond (decide (q.2.2.2.2.2.1 ≠ r293.2.1.2.2.2.2.2.1)) (.ok false) (L8 R (IntKind.i64.wrap ((i : Int) + 1)) q g r293.2.1 r293.2.2)))))
      (O.bind (F_spot_Build.S 400 x) fun r294 => O.cond (decide (r294.2 ≠ (0 : Int)))
        (O.bind (F_aqueductref14_Queue_Ask.S 400 x (setE q e) h) fun r295 => O.cond (decide (r294.2 ≠ r295.1)) (.ok false) (O.cond (decide (strOf g.1 ≠ r295.2.2.1)) (.ok false) (O.cond (decide (q.2.2.2.2.2.2 ≠ r295.2.1.2.2.2.2.2.2)) (.ok false) (O.cond (decide (q.2.2.2.2.2.1 ≠ r295.2.1.2.2.2.2.2.1)) (.ok false) (L8 R (IntKind.i64.wrap ((i : Int) + 1)) q g r295.2.1 r295.2.2)))))
        (O.bind (F_gmem_Memory_Write.S 400 q.1.2.2.2 r294.1 g) fun r296 => O.bind (F_aqueductref14_Queue_Ask.S 400 x (setE q e) h) fun r297 => O.cond (decide (r296.1 ≠ r297.1)) (.ok false) (O.cond (decide (strOf r296.2.1 ≠ r297.2.2.1)) (.ok false) (O.cond (decide (q.2.2.2.2.2.2 ≠ r297.2.1.2.2.2.2.2.2)) (.ok false) (O.cond (decide (q.2.2.2.2.2.1 ≠ r297.2.1.2.2.2.2.2.1)) (.ok false) (L8 R (IntKind.i64.wrap ((i : Int) + 1)) q r296.2 r297.2.1 r297.2.2))))))) : T = .ok true := by
  have hlen := hr.len
  have base : ∀ h2 : TR, h2.1 = strOf g.1 → h2.2.2.length ≤ h.2.2.length + 1 → Rel n a0.2.1 q g e h2 (i + 1) (3 * (i + 1)) := fun h2 e1 e2 => ⟨hr.okg, hr.len, hr.okq, hr.lay, hr.since, by have := hr.rng; omega, e1, by have := hr.log; omega⟩
  cases hb : q.2.2.2.2.2.2 with
  | true =>
    rw [hT, hb, O.cond_true, rAsk_br 400 x (setE q e) h hb, O.bind_ok, O.cond_neg (by simp)]
    exact ends_S a0 R i n hi hn HR q g e h (base h hr.same (by omega)) (setE q e) rfl _ (by rw [hb])
  | false =>
    obtain ⟨r, h1, p1, p2, p3, p4⟩ := rAsk_S 400 x (setE q e) g.1 h hr.same (by rw [hlen]; exact hr.okq.l) (by omega) hb (by have := hr.log; omega)
    have od := hr.okq.l.dev
    have hsz := evB_size x
    rw [hT, hb, O.cond_false, spotBuild_S 400 (by omega) x hx, O.bind_ok]
    by_cases c : (askP x).2 = 0
    · have ea : askP x = (evB x, 0) := by
        unfold askP at c ⊢
        split
        · rfl
        · rename_i hc; rw [if_neg hc] at c; exact absurd c (by decide)
      have hm : mayM q.1.2.2.2 ((evB x).size : Int) g.1.length = true := by rw [hsz, mayM_iff]; omega
      have hw := wrM_ok g q.1.2.2.2 (evB x) hr.okg hm
      rw [if_pos c] at p3
      rw [O.cond_neg (by rw [c]; simp), ea, Write_S _ _ _ _ hr.okg, if_pos hm, O.bind_ok, h1, O.bind_ok, O.cond_neg (by rw [p1, c]; simp), p2]
      refine ends_S a0 R i n hi hn HR q (wrM g q.1.2.2.2 (evB x)) e r.2.2 ⟨hw.1, by rw [hw.2, hlen], hr.okq, hr.lay, hr.since, by have := hr.rng; omega, p3, by have := hr.log; omega⟩ (setE q e) rfl _ (by rw [hb])
    · rw [if_neg c] at p3
      rw [O.cond_pos c, h1, O.bind_ok, O.cond_neg (fun hx => hx p1.symm), p2]
      exact ends_S a0 R i n hi hn HR q g e r.2.2 (base _ p3 p4) (setE q e) rfl _ (by rw [hb])
theorem fail_case (q : TQ) (g : TM) (e : Int) (h : TR) (hr : Rel n a0.2.1 q g e h i (3 * i + 1)) (T : O Bool)
    (hT : T = O.cond (decide (strOf g.1 ≠ h.1)) (.ok false) (O.cond (decide (true ≠ true)) (.ok false) (O.cond (decide (q.2.2.2.2.2.1 ≠ q.2.2.2.2.2.1)) (.ok false)
      (L8 R (IntKind.i64.wrap ((i : Int) + 1)) (q.1, q.2.1, q.2.2.1, q.2.2.2.1, q.2.2.2.2.1, q.2.2.2.2.2.1, true) g (setE (q.1, q.2.1, q.2.2.1, q.2.2.2.1, q.2.2.2.2.1, q.2.2.2.2.2.1, true) e) h)))) : T = .ok true := by
  refine ends_S a0 R i n hi hn HR (q.1, q.2.1, q.2.2.1, q.2.2.2.1, q.2.2.2.2.1, q.2.2.2.2.2.1, true) g e h ⟨hr.okg, hr.len, ⟨hr.okq.l, hr.okq.next, hr.okq.back, hr.okq.told, hr.okq.since, hr.okq.out⟩, hr.lay, hr.since, by have := hr.rng; omega, hr.same, by have := hr.log; omega⟩ _ rfl T ?_
  rw [hT]; rfl
theorem other_case (q : TQ) (g : TM) (e : Int) (h : TR) (hr : Rel n a0.2.1 q g e h i (3 * i + 1)) (T : O Bool)
    (hT : T = O.cond (decide (strOf g.1 ≠ h.1)) (.ok false) (O.cond (decide (q.2.2.2.2.2.2 ≠ q.2.2.2.2.2.2)) (.ok false) (O.cond (decide (q.2.2.2.2.2.1 ≠ q.2.2.2.2.2.1)) (.ok false)
      (L8 R (IntKind.i64.wrap ((i : Int) + 1)) q g (setE q e) h)))) : T = .ok true := by
  refine ends_S a0 R i n hi hn HR q g e h ⟨hr.okg, hr.len, hr.okq, hr.lay, hr.since, by have := hr.rng; omega, hr.same, by have := hr.log; omega⟩ _ rfl T ?_
  rw [hT]; rfl
theorem clone_case (q : TQ) (g : TM) (e : Int) (h : TR) (hr : Rel n a0.2.1 q g e h i (3 * i + 1)) (h0 : 0 < n) (F : List Int → List (Int × Int × Int × Bool) → O Bool)
    (hF : F = fun a b => O.cond (decide (strOf a ≠ h.1)) (.ok false) (O.cond (decide (q.2.2.2.2.2.2 ≠ q.2.2.2.2.2.2)) (.ok false) (O.cond (decide (q.2.2.2.2.2.1 ≠ q.2.2.2.2.2.1)) (.ok false)
      (L8 R (IntKind.i64.wrap ((i : Int) + 1)) q (a, g.2.1, b) (setE q e) h)))) (T : O Bool)
    (hT : T = O.bind (F_slices_Clone_byte_byte.S 400 g.1) fun r298 => O.bind (F_api_Access.S 400 g.2.2) fun r299 => O.cond false (.ok false) (O.cond false (.ok false)
      (O.bind (F_devq_Queue_Next.S 400 q g) fun r300 => O.bind (F_devq_Queue_Done.S 400 (0 : Int) (1 : Int) (1 : Int) r300.2.1 r300.2.2) fun r301 => O.bind (F_gmem_sized.S 400 (8 : Int)) fun r302 =>
        O.cond (!r302) (F r298 r299) (O.bind (F_words_Put.S 400 (1818584692 : Int) (8 : Int) false) fun r303 => O.cond (decide (r303.2 ≠ (0 : Int))) (F r298 r299) (O.bind (F_gmem_Memory_Write.S 400 (0 : Int) r303.1 r301.2.2) fun r304 => F r298 r299))))) : T = .ok true := by
  have hlen := hr.len
  have fin : F g.1 g.2.2 = .ok true := other_case a0 R i n hi hn HR q g e h hr _ (by rw [hF])
  obtain ⟨r, h1, p1, p2, p3⟩ := Next_S 400 (by omega) q g hr.okg (by rw [hlen]; exact hr.okq)
  have hp := nextR_ok q g.1 (by rw [hlen]; exact hr.okq)
  rw [← p2, hlen] at hp
  have hg2 := sameM_ok hr.okg p3
  have hl2 : r.2.2.1.length = n := by rw [p3.1, hlen]
  have hd : O.sat (F_devq_Queue_Done.S 400 0 1 1 r.2.1 r.2.2) fun s => okM s.2.2 := by
    by_cases hb : r.2.1.2.2.2.2.2.2 = true ∨ ¬ (0 ≤ (0 : Int) ∧ (0 : Int) ≤ 65535 ∧ 1 ≤ (1 : Int) ∧ (1 : Int) ≤ r.2.1.2.2.2.2.2.1 ∧ 0 ≤ (1 : Int) ∧ (1 : Int) ≤ 4294967295)
    · rw [Done_bad _ _ _ _ _ _ hb]; exact O.sat_ok hg2
    · have hb1 : r.2.1.2.2.2.2.2.2 = false := by cases hx : r.2.1.2.2.2.2.2.2 with | true => exact absurd (Or.inl hx) hb | false => rfl
      have hv : 0 ≤ (0 : Int) ∧ (0 : Int) ≤ 65535 ∧ 1 ≤ (1 : Int) ∧ (1 : Int) ≤ r.2.1.2.2.2.2.2.1 ∧ 0 ≤ (1 : Int) ∧ (1 : Int) ≤ 4294967295 := by
        apply Classical.byContradiction; intro x; exact hb (Or.inr x)
      exact O.sat_mono (Done_S 400 (by omega) 0 1 1 r.2.1 r.2.2 hg2 (by rw [hl2]; exact hp.1) hb1 ⟨hv.1, hv.2.1⟩ ⟨hv.2.2.1, hv.2.2.2.1⟩ ⟨hv.2.2.2.2.1, hv.2.2.2.2.2⟩) fun s hs => hs.2.2.2.2
  obtain ⟨s, h2, h3⟩ := hd
  have sz : F_gmem_sized.S 400 (8 : Int) = .ok true := by
    unfold F_gmem_sized.S
    rw [O.cond_neg (by decide), O.cond_neg (by decide), O.cond_neg (by decide)]; rfl
  rw [hT, CloneB_S _ _ (by have := hr.okg.1; omega), O.bind_ok, Acc_S' _ _ (by have := hr.okg.2; omega), O.bind_ok, O.cond_false, O.cond_false, h1, O.bind_ok, h2, O.bind_ok, sz, O.bind_ok, Bool.not_true, O.cond_false]
  have pt : F_words_Put.S 400 (1818584692 : Int) (8 : Int) false = _ := PutL_S 400 (by omega) 1818584692 8 (by omega) (by omega)
  rw [if_pos (by decide)] at pt
  rw [pt, O.bind_ok, O.cond_neg (by simp), Write_S _ _ _ _ h3, O.bind_ok]
  exact fin
theorem step_S (h0 : 0 < n) (hx : (A0 a0 (i : Int)).2.2.2.2.2.2.2.2.2.2.2.1 ≤ 9223372036854775807) (q : TQ) (g : TM) (e : Int) (h : TR) (hr : Rel n a0.2.1 q g e h i (3 * i + 1)) :
    flatQ (flatQ (F_aqueductlaw14_DevqDoes.j35 400 a0 (i : Int)) q) (setE q e) R g.2.1 g.1 g.2.2 h.1 h.2.1 h.2.2 = .ok true := by
  unfold flatQ F_aqueductlaw14_DevqDoes.j35 F_aqueductlaw14_DevqDoes.j35_b
  by_cases c4 : (A0 a0 (i : Int)).1 = (4 : Int)
  · rw [O.cond_pos c4]; exact next_case a0 R i n hi hn HR q g e h hr _ rfl
  rw [O.cond_neg c4]
  by_cases c5 : (A0 a0 (i : Int)).1 = (5 : Int)
  · rw [O.cond_pos c5]; exact done_case a0 R i n hi hn HR _ _ _ q g e h hr _ rfl
  rw [O.cond_neg c5]
  by_cases c6 : (A0 a0 (i : Int)).1 = (6 : Int)
  · rw [O.cond_pos c6]; exact tell_case a0 R i n hi hn HR q g e h hr _ rfl
  rw [O.cond_neg c6]
  by_cases c7 : (A0 a0 (i : Int)).1 = (7 : Int)
  · rw [O.cond_pos c7]; exact ask_case a0 R i n hi hn HR (_, _, _) hx q g e h hr _ rfl
  rw [O.cond_neg c7]
  by_cases c8 : (A0 a0 (i : Int)).1 = (8 : Int)
  · rw [O.cond_pos c8]; exact fail_case a0 R i n hi hn HR q g e h hr _ rfl
  rw [O.cond_neg c8]
  by_cases c9 : (A0 a0 (i : Int)).1 = (9 : Int)
  · rw [O.cond_pos c9]; exact clone_case a0 R i n hi hn HR q g e h hr h0 _ rfl _ rfl
  · rw [O.cond_neg c9]; exact other_case a0 R i n hi hn HR q g e h hr _ rfl
end
theorem Pure.DevqDoes : ∀ (a0 : Int × (Int × Int × Int × Int) × (List (Int × Int × Int × Int × Int × Int × ByteArray × Int × Int × Int × Bool × Int × Bool))), okF (.cons (.leaf (.int .i64)) (.cons (.agg (.cons (.leaf (.int .i64)) (.cons (.leaf (.int .i64)) (.cons (.leaf (.int .i64)) (.one (.leaf (.int .i64)) []))))) (.one (.row false 61 [.int .i64, .int .i64, .int .u64, .int .u32, .int .i64, .int .i64, .str, .int .i64, .int .i64, .int .i64, .bool, .int .i64, .bool]) []))) a0 → ∃ k, F_aqueductlaw14_DevqDoes.S k a0 = .ok true := by
  intro a0 h0
  have hs : okScr a0.2.2 := h0.2.2
  have hlen : a0.2.2.length ≤ maxLen := hs.1
  have hml : maxLen = 9223372036854775807 := by decide
  have fx : F_aqueductlaw14_fixed.S 400 = .ok true := fixed14 360
  have hn := many_le a0.1
  refine ⟨400, ?_⟩
  unfold F_aqueductlaw14_DevqDoes.S F_aqueductlaw14_DevqDoes.top
  rw [laid_S]
  by_cases hc : chkE a0.2.1 (many a0.1) = 0
  · rw [if_pos hc]
    have ok := chkE_ok _ _ hc
    have lp : ∀ (m i j : Nat), i + m = 100 → m < j → ∀ (q : TQ) (g : TM) (e : Int) (h : TR), Rel (many a0.1) a0.2.1 q g e h i (3 * i) → L8 (F_aqueductlaw14_DevqDoes.l8 400 a0 j) (i : Int) q g (setE q e) h = .ok true := by
      intro m
      induction m with
      | zero =>
        intro i j hi hj q g e h hr
        obtain ⟨j, rfl⟩ : ∃ i, j = i + 1 := ⟨j - 1, by omega⟩
        unfold L8
        show F_aqueductlaw14_DevqDoes.l8_b 400 a0 _ _ _ _ _ _ _ _ _ _ _ _ _ _ _ _ _ _ _ _ _ _ _ _ _ _ _ _ _ _ _ _ _ _ _ = _
        unfold F_aqueductlaw14_DevqDoes.l8_b
        rw [O.cond_true, O.cond_true]
        by_cases h1 : (i : Int) < a0.2.2.length
        · rw [O.cond_pos h1, O.cond_neg (by omega), fx, O.bind_ok]
        · rw [O.cond_neg h1, fx, O.bind_ok]
      | succ m ih =>
        intro i j hi hj q g e h hr
        obtain ⟨j, rfl⟩ : ∃ i, j = i + 1 := ⟨j - 1, by omega⟩
        unfold L8
        show F_aqueductlaw14_DevqDoes.l8_b 400 a0 _ _ _ _ _ _ _ _ _ _ _ _ _ _ _ _ _ _ _ _ _ _ _ _ _ _ _ _ _ _ _ _ _ _ _ = _
        unfold F_aqueductlaw14_DevqDoes.l8_b
        rw [O.cond_true, O.cond_true]
        by_cases h1 : (i : Int) < a0.2.2.length
        · rw [O.cond_pos h1, O.cond_pos (by omega), O.chk_dec (by omega), O.chk_dec (by omega)]
          obtain ⟨r, hr1, _⟩ := memory_sat 400 (by omega) ((A0 a0 (i : Int)).1, (A0 a0 (i : Int)).2.1, (_, _, _, _), _, _, _, (_, _, _), _) a0.2.1 (okScr_at _ hs _ i (by omega)) (by have := ok.lo; omega)
          have hx : (A0 a0 (i : Int)).2.2.2.2.2.2.2.2.2.2.2.1 ≤ 9223372036854775807 := by
            have e : A0 a0 (i : Int) = a0.2.2[i]'(by omega) := gt_at _ _ _ (by omega)
            rw [e]
            obtain ⟨_, _, _, _, _, _, _, _, _, _, _, h12, _⟩ := hs.2 _ (List.getElem_mem (show i < a0.2.2.length by omega))
            exact (wf_i64 h12).2
          have st := fun (g' : TM) (h' : TR) (hr' : Rel (many a0.1) a0.2.1 q g' e h' i (3 * i + 1)) => step_S a0 (F_aqueductlaw14_DevqDoes.l8 400 a0 j) i (many a0.1) (by omega) hn.2 (fun q g e h hr => ih (i + 1) j (by omega) (by omega) q g e h hr) (by omega) hx q g' e h' hr'
          have hsz : (h.1.size : Int) = g.1.length := by rw [hr.same, size_strOf]
          have gl := hr.okg.1
          rw [hr1, O.bind_ok]
          cases hb : r.2.2 with
          | false => rw [O.cond_false]; exact st g h ⟨hr.okg, hr.len, hr.okq, hr.lay, hr.since, hr.rng, hr.same, by have := hr.log; omega⟩
          | true =>
            rw [O.cond_true]
            show O.bind (F_gmem_Memory_Write.S 400 r.1 r.2.1 g) _ = _
            rw [Write_S _ _ _ _ hr.okg, O.bind_ok]
            show O.bind (F_aqueductref04_Memory_May.S 400 r.1 (r.2.1.size : Int) h) _ = _
            rw [rMay_S _ _ _ _ (by omega), O.bind_ok, hsz]
            by_cases hm : mayM r.1 r.2.1.size g.1.length = true
            · have hm' := mayM_iff.1 hm
              have hw := wrM_ok g r.1 r.2.1 hr.okg hm
              obtain ⟨s, hs1, s1, s2⟩ := note_sat 400 r.1 (r.2.1.size : Int) true h (by have := hr.log; omega)
              have sz : (s.1.size : Int) = g.1.length := by rw [s1, hsz]
              rw [if_pos hm, hm, Bool.not_true, O.cond_false, show ((h.1, h.2.1, h.2.2) : TR) = h from rfl, hs1, O.bind_ok, O.chk_dec (by omega), O.chk_dec (by rw [ext_size]; omega), i64_in (r.1 + _) (by omega), O.chk_dec (by omega), O.chk_dec (by rw [app_size, ext_size, ext_size]; omega)]
              refine st (wrM g r.1 r.2.1) (((s.1.extract 0 r.1.toNat ++ r.2.1) ++ s.1.extract (r.1 + (r.2.1.size : Int)).toNat s.1.size), s.2.1, s.2.2) ⟨hw.1, by rw [hw.2, hr.len], hr.okq, hr.lay, hr.since, hr.rng, ?_, by have := hr.log; show s.2.2.length ≤ _; omega⟩
              show (s.1.extract 0 r.1.toNat ++ r.2.1) ++ s.1.extract (r.1 + (r.2.1.size : Int)).toNat s.1.size = _
              rw [s1, hr.same]
              exact strOf_put g.1 r.1 r.2.1 ⟨hm'.1, by omega⟩
            · rw [if_neg hm]
              rw [Bool.not_eq_true] at hm
              rw [hm, Bool.not_false, O.cond_true]
              exact st g h ⟨hr.okg, hr.len, hr.okq, hr.lay, hr.since, hr.rng, hr.same, by have := hr.log; omega⟩
        · rw [O.cond_neg h1, fx, O.bind_ok]
    have e1 : (mem0 (many a0.1)).1.length = many a0.1 := by simp [mem0]
    have lo := ok.lo
    have h := lp 100 0 400 (by omega) (by omega) (q0 a0.2.1) (mem0 (many a0.1)) 0 (rmem0 (many a0.1)) ⟨⟨by omega, by simp [mem0]⟩, e1, q0_ok _ _ ok, rfl, by show (0 : Int) = min 0 (2 * a0.2.1.2.1); omega, ⟨by omega, by omega⟩, rfl, by simp [rmem0]⟩
    simpa [L8, setE, q0] using h
  · rw [if_neg hc, O.sum_inr, O.sum_inl]
    show O.cond false _ (F_aqueductlaw14_DevqDoes.l2 400 a0 (true, mem0 (many a0.1)) 400) = _
    rw [O.cond_false]
    show F_aqueductlaw14_DevqDoes.l2_b 400 a0 _ _ _ = _
    unfold F_aqueductlaw14_DevqDoes.l2_b
    rw [O.cond_false, fx, O.bind_ok]
end Go.Proofs.Ytjdhepioehfmhaa
