/- The law HdrBack, in plain words. -/
import Derived.Test.YtkmhbpiphepjoaaAPureHdrFinishes
namespace Go.Proofs.Ytkmhbpiphepjoaa
open Go.Aq Go.IntWalk
theorem rev2 (x : Int) (h : 0 ≤ x ∧ x ≤ 65535) : revT (putT x 2) = strOf [x % 256, x / 256] := by
  unfold putT
  rw [show wb x 2 = [x / 256 ^ 1 % 256, x / 256 ^ 0 % 256] from rfl, show (256 : Int) ^ 1 = 256 from rfl, show (256 : Int) ^ 0 = 1 from rfl, Int.ediv_one, Int.emod_eq_of_lt (by omega) (by omega : x / 256 < 256)]
  rfl
/-- What is built is parsed as it was. -/
theorem hdrB_back (h : HdrT) (s : ByteArray) : ((hdrB h).2 ≠ 0 ∧ (hdrB h).1 = ⟨#[]⟩) ∨ ((hdrB h).2 = 0 ∧ (hdrB h).1.size = 12 ∧ hdrP ((hdrB h).1 ++ s) = (h, s, 0)) := by
  obtain ⟨x1, x2, x3, x4, x5, x6, x7⟩ := h
  unfold hdrB
  by_cases c : 0 ≤ x1 ∧ x1 ≤ 3 ∧ 0 ≤ x2 ∧ x2 ≤ 255
  · rw [if_pos c]
    rw [finB_cons]
    by_cases c3 : 0 ≤ x3 ∧ x3 ≤ 65535
    · rw [if_pos c3, finB_cons]
      by_cases c4 : 0 ≤ x4 ∧ x4 ≤ 65535
      · rw [if_pos c4, finB_cons]
        by_cases c5 : 0 ≤ x5 ∧ x5 ≤ 65535
        · rw [if_pos c5, finB_cons]
          by_cases c6 : 0 ≤ x6 ∧ x6 ≤ 65535
          · rw [if_pos c6, finB_cons]
            by_cases c7 : 0 ≤ x7 ∧ x7 ≤ 65535
            · rw [if_pos c7]
              right
              have e : (finB [] true (strOf [x1, x2] ++ revT (putT x3 2) ++ revT (putT x4 2) ++ revT (putT x5 2) ++ revT (putT x6 2) ++ revT (putT x7 2))) = (strOf [x1, x2, x3 % 256, x3 / 256, x4 % 256, x4 / 256, x5 % 256, x5 / 256, x6 % 256, x6 / 256, x7 % 256, x7 / 256], 0) := by
                rw [rev2 x3 c3, rev2 x4 c4, rev2 x5 c5, rev2 x6 c6, rev2 x7 c7]
                simp only [← strOf_app]
                rfl
              rw [e]
              generalize hL : [x1, x2, x3 % 256, x3 / 256, x4 % 256, x4 / 256, x5 % 256, x5 / 256, x6 % 256, x6 / 256, x7 % 256, x7 / 256] = L
              have hl : (strOf L).size = 12 := by rw [size_strOf, ← hL]; rfl
              have hr : ∀ x ∈ L, 0 ≤ x ∧ x ≤ 255 := by
                intro x hx
                rw [← hL] at hx
                simp only [List.mem_cons, List.not_mem_nil, or_false] at hx
                omega
              have hb : ∀ i : Nat, i < 12 → bt (strOf L ++ s) (i : Int) = L.getD i 0 := by
                intro i hi
                rw [bt_app, hl, if_pos hi, bt_strOf L hr]
              have g : ∀ i : Nat, i < 11 → bl (strOf L ++ s) (i + 2) 2 = L.getD (i + 1) 0 * 256 + L.getD i 0 := by
                intro i hi
                rw [bl2, hb _ (by omega), hb _ (by omega)]
              have h0 : bt (strOf L ++ s) 0 = x1 := by have := hb 0 (by omega); rw [← hL] at this; rw [← hL]; exact this
              have h1 : bt (strOf L ++ s) 1 = x2 := by have := hb 1 (by omega); rw [← hL] at this; rw [← hL]; exact this
              have g4 : bl (strOf L ++ s) 4 2 = x3 := by have := g 2 (by omega); rw [this, ← hL]; show x3 / 256 * 256 + x3 % 256 = x3; omega
              have g6 : bl (strOf L ++ s) 6 2 = x4 := by have := g 4 (by omega); rw [this, ← hL]; show x4 / 256 * 256 + x4 % 256 = x4; omega
              have g8 : bl (strOf L ++ s) 8 2 = x5 := by have := g 6 (by omega); rw [this, ← hL]; show x5 / 256 * 256 + x5 % 256 = x5; omega
              have g10 : bl (strOf L ++ s) 10 2 = x6 := by have := g 8 (by omega); rw [this, ← hL]; show x6 / 256 * 256 + x6 % 256 = x6; omega
              have g12 : bl (strOf L ++ s) 12 2 = x7 := by have := g 10 (by omega); rw [this, ← hL]; show x7 / 256 * 256 + x7 % 256 = x7; omega
              refine ⟨rfl, hl, ?_⟩
              show hdrP (strOf L ++ s) = _
              unfold hdrP
              rw [if_neg (by rw [app_size, hl]; omega), h0, h1, g4, g6, g8, g10, g12, if_neg (by omega)]
              congr 2
              apply list_eq
              rw [ext_list, app_list, app_size, hl, List.drop_left' (by rw [← size_list, hl]), List.take_of_length_le (by rw [← size_list]; omega)]
            · rw [if_neg c7, finB_false]; left; exact ⟨by decide, rfl⟩
          · rw [if_neg c6, finB_false]; left; exact ⟨by decide, rfl⟩
        · rw [if_neg c5, finB_false]; left; exact ⟨by decide, rfl⟩
      · rw [if_neg c4, finB_false]; left; exact ⟨by decide, rfl⟩
    · rw [if_neg c3, finB_false]; left; exact ⟨by decide, rfl⟩
  · rw [if_neg c]; left; exact ⟨by decide, rfl⟩
theorem Pure.HdrBack : ∀ (a0 : Int × Int × Int × Int × Int × Int × Int) (a1 : ByteArray), okF (.cons (.leaf (.int .i64)) (.cons (.leaf (.int .i64)) (.cons (.leaf (.int .i64)) (.cons (.leaf (.int .i64)) (.cons (.leaf (.int .i64)) (.cons (.leaf (.int .i64)) (.one (.leaf (.int .i64))))))))) a0 → a1.size ≤ 140737488351232 → ∃ k, F_aqueductlaw10_HdrBack.S k a0 a1 = .ok true := by
  intro h s hh hs
  refine ⟨4000000, ?_⟩
  unfold F_aqueductlaw10_HdrBack.S
  obtain ⟨h1, h2⟩ := cut_size s hs
  rw [O.chk_dec h2]
  generalize s.extract 0 (min (s.size : Int) 1600).toNat = t at h1
  obtain ⟨f1, f2⟩ := fin_off t
  rw [offload_S _ (Nat.le_refl _) t (by omega), O.bind_ok, finish_S _ (offP t).2 (by omega) (by omega) (offP t).1, f1, O.bind_ok, f2, build_ok _ (by omega) hh, fixed10 _ (Nat.le_refl _)]
  simp only [O.bind_ok]
  rw [O.cond_neg (fun h => h rfl), O.cond_neg (fun h => h rfl), O.cond_neg (fun h => h rfl)]
  rcases hdrB_back h t with ⟨e1, e2⟩ | ⟨e1, e2, e3⟩
  · rw [O.cond_pos e1, e2, O.cond_pos rfl]
  · rw [O.cond_neg (fun h => h e1), O.chk_dec (by rw [e2]; omega), hdrParse_S _ (by omega) _ (by rw [app_size, e2]; omega), e3]
    simp [e2]
end Go.Proofs.Ytkmhbpiphepjoaa
