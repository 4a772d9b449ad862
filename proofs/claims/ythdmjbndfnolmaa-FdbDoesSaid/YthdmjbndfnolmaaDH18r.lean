/- What Rows comes to, as a contract: a new row of all that was seen, rising. -/
import Derived.Test.YthdmjbndfnolmaaDH18e
import Derived.Test.YthdmjbndfnolmaaDH18t
namespace Go.Proofs.Ythdmjbndfnolmaa
open Go.Aq Go.RowKit Go.Shelf Go.ChangeMaps
set_option linter.unusedVariables false
set_option maxRecDepth 100000 in
theorem sorted_in (Bm bm clock : Nat) (zs : List ZT) (w : World) (hB : w.heap[Bm]? = some (.cells #[.map (some bm)] 54 (0, 0))) (hm : w.heap[bm]? = some (.map (arr zs) clock)) (hn : (zs.map (·.1)).Nodup) (hc : ∀ z ∈ zs, z.1 < clock) (hN : zs.length ≤ 1000000) :
    Calls Try.prog 22 #[.func (.func 34) #[] #[.pointer (some ⟨Bm, 0, none⟩)], .func (.func 24) #[] #[]] w fun e w' => ∃ (ys : List VT) (v : Value), ys.Perm (zs.map (·.2.2)) ∧ Rise ys ∧ e = .returned v ∧ w'.ownsRow w.heap.size 44 4 v ys.length (flatVT ys) ∧ Below w.heap.size w w' := by
  have HA := Lib.hid (collect_raw Bm bm clock zs w hB hm hn hc hN)
  have HS := Lib.hid (sort_in w.heap.size)
  have HN := Lib.hid hN
  clear hB hm hn hc hN
  go_enter Try.func22, Try.ntmps22
  go_wp2_with (first
    | (go_at_call 32; refine HA.out.mono ?_; rintro e w' ⟨ys, v, hp, rfl, hown, hB⟩; have HO := Lib.hid hown; have HB := Lib.hid hB; have HP := Lib.hid hp; clear hown hB hp)
    | (go_at_call 33; refine (HS.out _ _ _ HO.out HB.out.size (by have h1 := HP.out.length_eq; have h2 := HN.out; rw [h1, List.length_map]; exact h2)).mono ?_; rintro e w' ⟨rfl, zs', hp', hr, hown, hB'⟩; have HO' := Lib.hid hown; have HB' := Lib.hid hB'; have HP' := Lib.hid hp'; have HR := Lib.hid hr; clear hown hB' hp' hr))
  refine bodyPost_ret (results_tmp rfl _ _ _) rfl ?_
  exact ⟨zs', _, HP'.out.trans HP.out, HR.out, rfl, by rw [HP'.out.length_eq]; exact HO'.out, HB.out.trans HB'.out⟩
set_option maxRecDepth 100000 in
theorem rows_raw (b0 bm clock : Nat) (room ticks : Int) (zs : List ZT) (w : World) (h0 : w.heap[b0]? = some (.cells #[.int .i64 room, .int .i64 ticks, .map (some bm)] 56 (0, 0)))
    (hm : w.heap[bm]? = some (.map (arr zs) clock)) (hn : (zs.map (·.1)).Nodup) (hc : ∀ z ∈ zs, z.1 < clock) (hN : zs.length ≤ 1000000) :
    Calls Try.prog 12 #[.pointer (some ⟨b0, 0, none⟩)] w fun e w' => ∃ (ys : List VT) (v : Value), ys.Perm (zs.map (·.2.2)) ∧ Rise ys ∧ e = .returned v ∧ w'.ownsRow w.heap.size 44 4 v ys.length (flatVT ys) ∧ Below w.heap.size w w' := by
  have c2 : w.cell? ⟨b0, 2, none⟩ = some (.map (some bm)) := cells_at h0 2
  obtain ⟨W0, hW0⟩ : ∃ W0, w.alloc (.cells #[.map (some bm)] 54 (0, 0)) = W0 := ⟨_, rfl⟩
  have hsz : W0.heap.size = w.heap.size + 1 := by rw [← hW0]; simp
  have hB0 : Below w.heap.size w W0 := by rw [← hW0]; exact (Below.refl _ w).alloc (Nat.le_refl _) _
  have hBm : W0.heap[w.heap.size]? = some (.cells #[.map (some bm)] 54 (0, 0)) := by rw [← hW0]; exact (MapKept.heap_alloc w _).1
  have hbm : W0.heap[bm]? = some (.map (arr zs) clock) := (hB0.block _ (Array.getElem?_eq_some_iff.1 hm).1).trans hm
  have HS := Lib.hid (sorted_in w.heap.size bm clock zs W0 hBm hbm hn hc hN)
  have HV := Lib.hid (values_raw bm w)
  rw [hW0] at HV
  have HB := Lib.hid hB0
  have HZ := Lib.hid hsz
  clear h0 hm hn hc hN hW0 hB0 hBm hbm hsz
  go_enter Try.func12, Try.ntmps12
  go_wp2_with (first
    | (go_at_call 23; refine HV.out.mono ?_; rintro e w' ⟨rfl, rfl⟩)
    | (go_at_call 22; refine HS.out.mono ?_; rintro e w' ⟨ys, v, hp, hr, rfl, hown, hB'⟩; have HO' := Lib.hid hown; have HB' := Lib.hid hB'; have HP' := Lib.hid hp; have HR := Lib.hid hr; clear hown hB' hp hr))
  refine bodyPost_ret (results_tmp rfl _ _ _) rfl ?_
  exact ⟨ys, _, HP'.out, HR.out, rfl, HO'.out.mono (by rw [HZ.out]; omega), HB.out.trans (HB'.out.mono (by rw [HZ.out]; omega))⟩
theorem flat_vt : ∀ ys : List VT, Go.Aq.flat [.int .i64, .str, .int .i64, .int .i64] ys = flatVT ys
  | [] => rfl
  | y :: ys => by
    have e : flatVT (y :: ys) = vcells y ++ flatVT ys := rfl
    rw [e, ← flat_vt ys]
    rfl
theorem rowSat_of {w : World} {base : Nat} {v : Value} {ys : List VT} (h : w.ownsRow base 44 4 v ys.length (flatVT ys)) :
    RowSat w v true 44 [.int .i64, .str, .int .i64, .int .i64] ys ∧ ∀ b, mineOf v (.row true 44 [.int .i64, .str, .int .i64, .int .i64] ys) = some b → base ≤ b := by
  rcases h.2 with ⟨rfl, h0⟩ | ⟨g, cap, cur, rfl, hg, hcell, h1, h2, h3, h4⟩
  · have hy : ys = [] := by
      have := h.1
      cases ys with
      | nil => rfl
      | cons y ys => rw [List.length_cons] at h0; omega
    subst hy
    exact ⟨.inl ⟨rfl, rfl⟩, fun b hb => by simp [mineOf] at hb⟩
  · refine ⟨.inr ⟨⟨g, 0, none⟩, cap, rfl, h1, (fun h => by cases h), fun _ => ⟨rfl, rfl, h2, cur, (0, 0), hcell, h3, ?_, by rw [flat_vt]; exact h4⟩⟩, fun b hb => by simp only [mineOf, Option.some.injEq] at hb; omega⟩
    exact fun i _ h => by simp at h
/-- May the rows be sorted by network and address alone? -/
def rowsOk (es : List (KT × VT)) : Bool := decide (es.length ≤ 1000000) && decide ((es.map fun e => keyV e.2).Nodup)
theorem rise_up {ys zs : List VT} (hr : Rise ys) (hp : ys.Perm zs) (hn : (zs.map keyV).Nodup) : isort zs = ys := by
  refine isort_is hp ?_
  have hn' : (ys.map keyV).Nodup := (hp.map keyV).nodup_iff.2 hn
  unfold List.Nodup at hn'
  rw [List.pairwise_map] at hn'
  unfold Up
  unfold Rise at hr
  refine (List.Pairwise.and hr hn').imp ?_
  intro a b h
  cases e : ltV a b with
  | true => rfl
  | false => exact absurd (ltV_total e h.1) h.2
namespace F_fdb_Table_Rows
noncomputable def ct : Ct := ⟨.some (.pins [.ref 0]), [(56, .cons (.leaf (.int .i64)) (.cons (.leaf (.int .i64)) (.one (.map 54 true true [.int .i64, .str] [.int .i64, .str, .int .i64, .int .i64]) [])))], [⟨.val (.row true 44 [.int .i64, .str, .int .i64, .int .i64]), [], []⟩]⟩
noncomputable def S (k : Nat) (g : Int × Int × List (KT × VT)) : O ((List VT) × Int × Int × List (KT × VT)) :=
  O.chk (rowsOk g.2.2) (.ok (isort (g.2.2.map (·.2)), g))
theorem ok (k : Nat) : FnOkC Try.prog 12 ct (fun (_ : Unit) (g : Int × Int × List (KT × VT)) => S k g) := by
  intro x g hne w vs α F0 hO hnd hA
  obtain ⟨room, ticks, es⟩ := g
  obtain ⟨hok, _⟩ := O.chk_ne (res := S k (room, ticks, es)) rfl hne
  obtain ⟨b0, bm, ha, rfl, h0, hm⟩ := rep_open hO
  obtain ⟨hA, _⟩ := hA
  subst hA
  have hm' := hm
  obtain ⟨zs, clock, rfl, hb, hn, hc, hk⟩ := map_sat_zs hm
  have hok' : zs.length ≤ 1000000 ∧ ((zs.map (·.2.2)).map keyV).Nodup := by
    unfold rowsOk at hok
    rw [Bool.and_eq_true, decide_eq_true_eq, decide_eq_true_eq] at hok
    refine ⟨by simpa using hok.1, ?_⟩
    have := hok.2
    rw [List.map_map] at this
    rw [List.map_map]
    exact this
  have hraw := rows_raw b0 bm clock room ticks zs w h0 hb hn hc hok'.1
  simp only [List.map_cons, List.map_nil, pinD, ha]
  refine hraw.mono ?_
  rintro e w' ⟨ys, v, hp, hr, rfl, hown, hB⟩
  have hys : isort (zs.map (·.2.2)) = ys := rise_up hr hp hok'.2
  have hys' : isort ((zs.map (·.2)).map (·.2)) = ys := by rw [List.map_map]; exact hys
  have hb0 := (Array.getElem?_eq_some_iff.1 h0).1
  have hbm := (Array.getElem?_eq_some_iff.1 hb).1
  obtain ⟨hrow, hge⟩ := rowSat_of hown
  refine ⟨(ys, room, ticks, zs.map (·.2)), ?_, ⟨hB.os, hB.tape, hB.output, hB.size, fun b hb _ => hB.block b hb⟩, ?_⟩
  · unfold S
    rw [hok]
    rw [O.chk_true]
    exact congrArg (fun y => O.ok (y, room, ticks, zs.map (·.2))) hys'
  · refine ⟨α, [b0, bm], (mineOf v (.row true 44 [.int .i64, .str, .int .i64, .int .i64] ys)).toList, fun _ _ => rfl, rep_shut ha ((hB.block b0 hb0).trans h0) ?_, ⟨[v], ⟨v, rfl, by simp, hrow, rfl, fun b hb => trivial⟩, rfl⟩, ?_, ?_⟩
    · obtain ⟨ms, clock, hbb, r⟩ := hm'
      exact ⟨ms, clock, (hB.block bm hbm).trans hbb, r⟩
    · rw [List.nodup_append]
      refine ⟨hnd, by cases mineOf v (.row true 44 [.int .i64, .str, .int .i64, .int .i64] ys) <;> simp, fun a ha b hb => ?_⟩
      have := hge b (by simpa using hb)
      simp at ha
      rcases ha with rfl | rfl <;> omega
    · intro b hb
      rcases List.mem_append.1 hb with hb | hb
      · exact .inl hb
      · exact .inr (hge b (by simpa using hb))
theorem hd {T : Type} (k : Nat) : HdOk Try.prog 12 (pureC (T := T) ct [.arg 0 0] (fun (_ : Unit) (g : Int × Int × List (KT × VT)) => S k g)) :=
  pureC_ok rfl [.arg 0 0] (ok k) Try.call12
end F_fdb_Table_Rows
end Go.Proofs.Ythdmjbndfnolmaa
