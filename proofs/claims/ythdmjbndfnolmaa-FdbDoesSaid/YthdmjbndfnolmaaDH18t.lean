/- What Tick comes to, as a contract: each age rises, those too old go. -/
import Derived.Test.YthdmjbndfnolmaaDH18a
import Derived.Test.YthdmjbndfnolmaaDH18o
namespace Go.Proofs.Ythdmjbndfnolmaa
open Go.Aq
set_option linter.unusedVariables false
theorem zs_of : ∀ (es : List (KT × VT)) (ms : List MapEntry), ms.map (fun e => (e.key, e.val)) = es.map (fun e => (kv e.1, vv e.2)) → ∃ zs : List ZT, zs.map (·.2) = es ∧ zs.map encE = ms ∧ zs.map (·.1) = ms.map (·.born)
  | [], ms, h => by
    have : ms = [] := by simpa using h
    subst this
    exact ⟨[], rfl, rfl, rfl⟩
  | e :: es, ms, h => by
    cases ms with
    | nil => simp at h
    | cons m ms =>
      simp only [List.map_cons, List.cons.injEq, Prod.mk.injEq] at h
      obtain ⟨⟨h1, h2⟩, h3⟩ := h
      obtain ⟨zs, z1, z2, z3⟩ := zs_of es ms h3
      refine ⟨(m.born, e) :: zs, by rw [List.map_cons, z1], ?_, by rw [List.map_cons, z3, List.map_cons]⟩
      rw [List.map_cons, z2]
      congr 1
      cases m
      simp only at h1 h2
      subst h1 h2
      rfl
theorem map_sat_zs {w : World} {b : Nat} {es : List (KT × VT)} (h : MapSat w b true true [.int .i64, .str] [.int .i64, .str, .int .i64, .int .i64] es) :
    ∃ (zs : List ZT) (clock : Nat), zs.map (·.2) = es ∧ w.heap[b]? = some (.map (arr zs) clock) ∧ (zs.map (·.1)).Nodup ∧ (∀ z ∈ zs, z.1 < clock) ∧ (zs.map (·.2.1)).Nodup := by
  obtain ⟨ms, clock, hb, he, hn, hc, hk⟩ := h
  obtain ⟨zs, z1, z2, z3⟩ := zs_of es ms.toList he
  refine ⟨zs, clock, z1, ?_, by rw [z3]; exact hn, fun z hz => ?_, ?_⟩
  · rw [hb]; unfold arr; rw [z2]
  · exact hc (encE z) (by rw [← z2]; exact List.mem_map.2 ⟨z, hz, rfl⟩)
  · have : zs.map (·.2.1) = es.map (·.1) := by rw [← z1, List.map_map]; rfl
    rw [this]; exact hk
theorem map_sat_of {w : World} {b clock : Nat} {zs : List ZT} {es : List (KT × VT)} (he : zs.map (fun z => z.2) = es) (hb : w.heap[b]? = some (.map (arr zs) clock)) (hn : (zs.map (·.1)).Nodup) (hc : ∀ z ∈ zs, z.1 < clock) (hk : (zs.map (·.2.1)).Nodup) :
    MapSat w b true true [.int .i64, .str] [.int .i64, .str, .int .i64, .int .i64] es := by
  refine ⟨arr zs, clock, hb, ?_, ?_, ?_, ?_⟩
  · have h : (zs.map encE).map (fun e => (e.key, e.val)) = es.map (fun e => (kv e.1, vv e.2)) := by
      rw [← he, List.map_map, List.map_map]
      rfl
    exact h
  · show (((zs.map encE).toArray.toList).map _).Nodup
    rw [List.map_map]; exact hn
  · intro e he
    have he : e ∈ zs.map encE := by simpa [arr] using he
    obtain ⟨z, hz, rfl⟩ := List.mem_map.1 he
    exact hc z hz
  · have h : (es.map fun e => e.1).Nodup := by rw [← he, List.map_map]; exact hk
    exact h
/-- One entry, a tick later. -/
def bumpE (ticks : Int) (e : KT × VT) : Option (KT × VT) := if ticks ≤ (upV e.2).2.2.2 then none else some (e.1, upV e.2)
def tickE (ticks : Int) (es : List (KT × VT)) : List (KT × VT) := es.filterMap (bumpE ticks)
theorem bump_zs (ticks : Int) : ∀ zs : List ZT, (zs.filterMap (bump ticks)).map (·.2) = tickE ticks (zs.map (·.2))
  | [] => rfl
  | z :: zs => by
    have ih := bump_zs ticks zs
    unfold tickE at ih ⊢
    rw [List.map_cons, List.filterMap_cons, List.filterMap_cons]
    unfold bump bumpE at *
    by_cases h : ticks ≤ (upV z.2.2).2.2.2
    · rw [if_pos h, if_pos h]; exact ih
    · rw [if_neg h, if_neg h]; simp only [List.map_cons]; rw [ih]
theorem bump_len (ticks : Int) (zs : List ZT) : (zs.filterMap (bump ticks)).length = (tickE ticks (zs.map (·.2))).length := by rw [← bump_zs, List.length_map]
theorem bump_sub (ticks : Int) : ∀ zs : List ZT, ((zs.filterMap (bump ticks)).map (fun z => (z.1, z.2.1))).Sublist (zs.map (fun z => (z.1, z.2.1)))
  | [] => List.Sublist.refl _
  | z :: zs => by
    have ih := bump_sub ticks zs
    rw [List.map_cons, List.filterMap_cons]
    unfold bump at *
    by_cases h : ticks ≤ (upV z.2.2).2.2.2
    · rw [if_pos h]; exact ih.trans (List.sublist_cons_self _ _)
    · rw [if_neg h]; simp only [List.map_cons]; exact ih.cons_cons _
abbrev obT : TypeId × Shs := (56, .cons (.leaf (.int .i64)) (.cons (.leaf (.int .i64)) (.one (.map 54 true true [.int .i64, .str] [.int .i64, .str, .int .i64, .int .i64]) [])))
theorem rep_open {w : World} {α : Nat → Value} {room ticks : Int} {es : List (KT × VT)} {F0 : List Nat} (hO : repO w α Any 0 [obT] ((room, ticks, es) : Int × Int × List (KT × VT)) F0) :
    ∃ b0 bm, α 0 = .pointer (some ⟨b0, 0, none⟩) ∧ F0 = [b0, bm] ∧ w.heap[b0]? = some (.cells #[.int .i64 room, .int .i64 ticks, .map (some bm)] 56 (0, 0)) ∧ MapSat w bm true true [.int .i64, .str] [.int .i64, .str, .int .i64, .int .i64] es := by
  obtain ⟨b0, cs, F', ha, h0, ⟨vs1, vs2, F1, F2, rfl, rfl, ⟨rfl, rfl⟩, ⟨vs3, vs4, F3, F4, rfl, rfl, ⟨rfl, rfl⟩, ⟨us, rfl, ⟨bm, rfl, hm, rfl⟩⟩⟩⟩, rfl⟩ := hO
  exact ⟨b0, bm, ha, rfl, h0, hm⟩
theorem rep_shut {w : World} {α : Nat → Value} {room ticks : Int} {es : List (KT × VT)} {b0 bm : Nat} (ha : α 0 = .pointer (some ⟨b0, 0, none⟩)) (h0 : w.heap[b0]? = some (.cells #[.int .i64 room, .int .i64 ticks, .map (some bm)] 56 (0, 0)))
    (hm : MapSat w bm true true [.int .i64, .str] [.int .i64, .str, .int .i64, .int .i64] es) : repO w α Any 0 [obT] ((room, ticks, es) : Int × Int × List (KT × VT)) [b0, bm] :=
  ⟨b0, [.int .i64 room, .int .i64 ticks, .map (some bm)], [bm], ha, h0, ⟨[.int .i64 room], [.int .i64 ticks, .map (some bm)], [], [bm], rfl, rfl, ⟨rfl, rfl⟩, ⟨[.int .i64 ticks], [.map (some bm)], [], [bm], rfl, rfl, ⟨rfl, rfl⟩, ⟨[.map (some bm)], rfl, ⟨bm, rfl, hm, rfl⟩⟩⟩⟩, rfl⟩
theorem mixed' : Try.prog.follows .mixedOrders = true := mixed
namespace F_fdb_Table_Tick
noncomputable def ct : Ct := ⟨.some (.pins [.ref 0]), [(56, .cons (.leaf (.int .i64)) (.cons (.leaf (.int .i64)) (.one (.map 54 true true [.int .i64, .str] [.int .i64, .str, .int .i64, .int .i64]) [])))], [⟨.val (.leaf (.int .i64)), [], []⟩]⟩
noncomputable def S (k : Nat) (g : Int × Int × List (KT × VT)) : O (Int × Int × Int × List (KT × VT)) :=
  .ok (IntKind.i64.wrap ((List.length g.2.2 : Int) - (List.length (tickE g.2.1 g.2.2) : Int)), g.1, g.2.1, tickE g.2.1 g.2.2)
theorem ok (k : Nat) : FnOkC Try.prog 15 ct (fun (_ : Unit) (g : Int × Int × List (KT × VT)) => S k g) := by
  intro x g _ w vs α F0 hO hnd hA
  obtain ⟨room, ticks, es⟩ := g
  obtain ⟨b0, bm, ha, rfl, h0, hm⟩ := rep_open hO
  obtain ⟨hA, _⟩ := hA
  subst hA
  obtain ⟨zs, clock, rfl, hb, hn, hc, hk⟩ := map_sat_zs hm
  have hne : b0 ≠ bm := fun e => by subst e; rw [h0] at hb; cases hb
  have hraw := tick_raw b0 bm clock room ticks zs w hne h0 hb hn hk hc
  simp only [List.map_cons, List.map_nil, pinD, ha]
  refine hraw.mono ?_
  rintro e w' ⟨rfl, hK, hb'⟩
  have hsub := bump_sub ticks zs
  have hsub1 : ((zs.filterMap (bump ticks)).map (·.1)).Sublist (zs.map (·.1)) := by
    have := hsub.map Prod.fst
    rwa [List.map_map, List.map_map] at this
  have hsub2 : ((zs.filterMap (bump ticks)).map (·.2.1)).Sublist (zs.map (·.2.1)) := by
    have := hsub.map Prod.snd
    rwa [List.map_map, List.map_map] at this
  have hms := map_sat_of (bump_zs ticks zs) hb' (hsub1.nodup hn) (fun z hz => by
    have : z.1 ∈ zs.map (·.1) := hsub1.subset (List.mem_map.2 ⟨z, hz, rfl⟩)
    obtain ⟨y, hy, he⟩ := List.mem_map.1 this
    rw [← he]; exact hc y hy) (hsub2.nodup hk)
  have hlen := bump_len ticks zs
  refine ⟨(IntKind.i64.wrap ((List.length (zs.map (·.2)) : Int) - (List.length (tickE ticks (zs.map (·.2))) : Int)), room, ticks, tickE ticks (zs.map (·.2))), rfl, ⟨hK.os, hK.tape, hK.output, hK.size, fun b hb hF => hK.heap b hb (by simp at hF; exact hF.2)⟩, ?_⟩
  refine ⟨α, [b0, bm], [], fun _ _ => rfl, rep_shut ha ?_ hms, ⟨_, ⟨rfl, rfl⟩, ?_⟩, by simpa using hnd, fun b hb => .inl (by simpa using hb)⟩
  · rw [hK.heap b0 (Array.getElem?_eq_some_iff.1 h0).1 hne]; exact h0
  · rw [hlen, wrap_i64, List.length_map]
    rfl
theorem hd {T : Type} (k : Nat) : HdOk Try.prog 15 (pureC (T := T) ct [.arg 0 0] (fun (_ : Unit) (g : Int × Int × List (KT × VT)) => S k g)) :=
  pureC_ok rfl [.arg 0 0] (ok k) Try.call15
end F_fdb_Table_Tick
end Go.Proofs.Ythdmjbndfnolmaa
