/- drvq's id: the least id that is not held, by a walk; as a callee of the evaluator. -/
import Derived.Sort.WalkA
import Derived.WalkKit
import Derived.OwnWalk
import Derived.LoopN
import Derived.Lib.Hide
import Derived.Test.YtpfddjdkafjjfaaGreatDTab
namespace Go.Proofs.YtpfddjdkafjjfaaGreat
open Go.Aq Go.RowKit Go.Sort
set_option linter.unusedVariables false
theorem nodup_sub : ∀ (l l' : List Int), l.Nodup → (∀ x ∈ l, x ∈ l') → l.length ≤ l'.length
  | [], _, _, _ => Nat.zero_le _
  | x :: l, l', hn, h => by
    rw [List.nodup_cons] at hn
    have hx := h x (by simp)
    have ih := nodup_sub l (l'.erase x) hn.2 fun y hy => (List.mem_erase_of_ne (fun e => hn.1 (by rw [← e]; exact hy))).2 (h y (by simp [hy]))
    rw [List.length_erase, if_pos hx] at ih
    have := List.length_pos_of_mem hx
    simp; omega
abbrev EI := List (Int × Int)
theorem has_mem {es : EI} {k : Int} (h : mhas es k = true) : k ∈ es.map (·.1) := by
  unfold mhas at h
  rw [List.any_eq_true] at h
  obtain ⟨e, he, h⟩ := h
  exact List.mem_map.2 ⟨e, he, by simpa using h⟩
theorem held_le (es : EI) (k : Nat) (h : ∀ m, m < k → mhas es (m : Int) = true) : k ≤ es.length := by
  have := nodup_sub ((List.range k).map fun m : Nat => (m : Int)) (es.map (·.1)) (by
    unfold List.Nodup
    rw [List.pairwise_map]
    exact List.Pairwise.imp (fun {a b} h e => h (by omega)) (List.nodup_range (n := k))) (by
    intro x hx
    obtain ⟨m, hm, rfl⟩ := List.mem_map.1 hx
    exact has_mem (h m (by simpa using hm)))
  simpa using this
/-- The least number that is no key. -/
def lf (es : EI) : Nat → Nat → Nat
  | 0, n => n
  | f + 1, n => if mhas es (n : Int) = true then lf es f (n + 1) else n
def leastN (es : EI) : Nat := lf es (es.length + 1) 0
theorem lf_spec (es : EI) : ∀ (f n : Nat), n + f = es.length + 1 → (∀ m, m < n → mhas es (m : Int) = true) → (∀ m, m < lf es f n → mhas es (m : Int) = true) ∧ mhas es ((lf es f n : Nat) : Int) = false
  | 0, n, hf, h => by
    exact absurd (held_le es n h) (by omega)
  | f + 1, n, hf, h => by
    unfold lf
    by_cases hn : mhas es (n : Int) = true
    · rw [if_pos hn]
      refine lf_spec es f (n + 1) (by omega) fun m hm => ?_
      by_cases h' : m < n
      · exact h m h'
      · obtain rfl : m = n := by omega
        exact hn
    · rw [if_neg hn]
      exact ⟨h, by simpa using hn⟩
theorem least_spec (es : EI) : (∀ m, m < leastN es → mhas es (m : Int) = true) ∧ mhas es ((leastN es : Nat) : Int) = false := lf_spec es (es.length + 1) 0 (by omega) (fun m h => by omega)
theorem least_is {es : EI} {k : Nat} (h : ∀ m, m < k → mhas es (m : Int) = true) (hk : mhas es (k : Int) = false) : leastN es = k := by
  have s := least_spec es
  by_cases h1 : leastN es < k
  · rw [h _ h1] at s; cases s.2
  · by_cases h2 : k < leastN es
    · rw [s.1 k h2] at hk; cases hk
    · omega
set_option maxRecDepth 100000 in
theorem id_raw (b0 bm : Nat) (es : EI) (w : World) (c13 : w.cell? ⟨b0, 13, none⟩ = some (.map (some bm))) (hm : MapSat w bm false false [.int .i64] [.int .i64] es) (hl : es.length ≤ 1000000) :
    Calls Tryz.prog 28 #[.pointer (some ⟨b0, 0, none⟩)] w fun e w' => e = .returned (.int .i64 ((leastN es : Nat) : Int)) ∧ w' = w := by
  have hlk : ∀ n : Int, (Instr.lookup 76 (.map (some bm)) (.int .i64 n) true).run Tryz.prog w = .ok (.tuple #[.int .i64 (mget (0 : Int) es n), .bool (mhas es n)]) w := fun n =>
    lookup_run (t := 76) (ka := false) (va := false) (kl := [.int .i64]) (vl := [.int .i64]) tab_ok (by kernel_rfl) hm n true
  clear hm
  have HL := Lib.hid hlk
  clear hlk
  go_enter Tryz.func28, Tryz.ntmps28
  go_wp2
  go_loop [3] (fun i => ∃ k : Nat, i = .int .i64 k ∧ k ≤ es.length ∧ ∀ m, m < k → mhas es (m : Int) = true) (fun i => es.length - (intOf i).toNat)
  case atStart => exact ⟨0, rfl, by omega, fun m h => by omega⟩
  case round =>
    obtain ⟨k, rfl, hk, hall⟩ := hrel
    have hlk := HL.out (k : Int)
    cases hh : mhas es (k : Int) with
    | true =>
      rw [hh] at hlk
      have hk1 : k + 1 ≤ es.length := held_le es (k + 1) fun m hm => by
        by_cases h' : m < k
        · exact hall m h'
        · obtain rfl : m = k := by omega
          exact hh
      have HA := Lib.hid hall
      have HH := Lib.hid hh
      clear hall hh
      go_wp2
      refine ⟨⟨k + 1, ?_, hk1, fun m hm => ?_⟩, ?_⟩
      · show Value.int .i64 ((k : Int) + 1) = _
        rw [Int.natCast_add]; rfl
      · by_cases h' : m < k
        · exact HA.out m h'
        · obtain rfl : m = k := by omega
          exact HH.out
      · show es.length - ((k : Int) + 1).toNat < es.length - ((k : Int)).toNat
        omega
    | false =>
      rw [hh] at hlk
      have hr := least_is hall hh
      have HR := Lib.hid hr
      clear hall hh hr
      go_wp2
      refine bodyPost_ret (results_tmp rfl _ _ _) rfl ?_
      refine ⟨?_, rfl⟩
      show Ending.returned (Value.int .i64 (k : Int)) = _
      rw [HR.out]
namespace F_drvq_Queue_id
/-- The queue's id as a callee. -/
noncomputable def h {T : Type} : Hd T := fun args _ st K _ => match args with
  | [.ptr j 0] => match lkp j st.H with
    | some (.cells _ [_, _, _, _, _, _, _, _, _, _, _, _, _, .mp m]) => match lkp m st.H with
      | some (.map _ false false [.int .i64] [.int .i64] es) => O.chk (decide (List.length es ≤ 1000000)) (K (.int .i64 ((leastN es : Nat) : Int)) st)
      | _ => .no
    | _ => .no
  | _ => .no
theorem hd {T : Type} (k : Nat) : HdOk Tryz.prog 28 (h (T := T)) := by
  intro args sl st K Kp hne
  refine ⟨Tryz.call28, fun S w0 ν w hR hb => ?_⟩
  unfold h at hne ⊢
  split at hne
  · rename_i j
    split at hne
    · rename_i t x0 x1 x2 x3 x4 x5 x6 x7 x8 x9 x10 x11 x12 m hj
      split at hne
      · rename_i t' es hm
        have hj' := hj
        obtain ⟨b0, hb0, hc⟩ := hR.sat _ _ hj
        obtain ⟨bm, hbm, hs⟩ := hR.sat _ _ hm
        obtain ⟨hok, _⟩ := O.chk_ne rfl hne
        have hl : List.length es ≤ 1000000 := of_decide_eq_true hok
        have hden : denL ν [.ptr j 0] = [.pointer (some ⟨b0, 0, none⟩)] := by simp only [denL, den, hb0]; rfl
        rw [hden]
        have c13 : w.cell? ⟨b0, 13, none⟩ = some (.map (some bm)) := by
          unfold World.cell?
          rw [hc]
          simp [denL, den, hbm, mpV]
        refine (id_raw b0 bm es w c13 hs hl).mono ?_
        rintro e w' ⟨rfl, rfl⟩
        refine ⟨ν, st, .int .i64 ((leastN es : Nat) : Int), hR, Step.refl _ _ _, rfl, rfl, ?_⟩
        rw [hok, O.chk_true]
      · exact absurd rfl hne
    · exact absurd rfl hne
  · exact absurd rfl hne
end F_drvq_Queue_id
end Go.Proofs.YtpfddjdkafjjfaaGreat
