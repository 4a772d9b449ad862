/- Layer 15, plain: bytes written into a memory, the document's as gmem's; what laid comes to. -/
import Derived.Test.YtpfddjdkafjjfaaGreatDP15a
namespace Go.Proofs.YtpfddjdkafjjfaaGreat
open Go.Aq Go.IntWalk
set_option linter.unusedVariables false
abbrev TR := ByteArray × Int × List (Int × Int × Int × Bool)
theorem strOf_bytesOf (s : ByteArray) : Go.Aq.strOf (bytesOf s) = s := by
  apply list_eq
  show ((bytesOf s).map fun n => UInt8.ofNat n.toNat) = _
  unfold bytesOf
  rw [List.map_map]
  conv => rhs; rw [← List.map_id s.data.toList]
  apply List.map_congr_left
  intro c _
  show UInt8.ofNat ((c.toNat : Int).toNat) = c
  rw [Int.toNat_natCast]; simp
theorem strOf_sub (L : List Int) (i j : Nat) : (Go.Aq.strOf L).extract i j = Go.Aq.strOf (sub L i ((j - i : Nat) : Int)) := by
  apply list_eq
  rw [ext_list]
  unfold Go.Aq.strOf sub
  simp [List.map_take, List.map_drop]
theorem app_as (a b c : ByteArray) : (a ++ b) ++ c = a ++ (b ++ c) := by
  apply list_eq; simp only [app_list, List.append_assoc]
theorem strOf_put (b : List Int) (a : Int) (s : ByteArray) (h : 0 ≤ a ∧ a + s.size ≤ b.length) :
    (((Go.Aq.strOf b).extract 0 a.toNat ++ s) ++ (Go.Aq.strOf b).extract (a + s.size).toNat (Go.Aq.strOf b).size) = Go.Aq.strOf (putAt b a (bytesOf s)) := by
  unfold putAt
  rw [strOf_app, strOf_app, strOf_bytesOf, app_as]
  congr 1
  · have : sub b ((0 : Nat) : Int) ((a.toNat - 0 : Nat) : Int) = List.take a.toNat b := by
      unfold sub
      rw [Int.toNat_natCast, Int.toNat_natCast, List.drop_zero, Nat.sub_zero]
    rw [strOf_sub, this]
  · congr 1
    rw [strOf_sub, size_strOf]; congr 1; unfold sub
    rw [bytesOf_len]
    rw [List.take_of_length_le (by rw [List.length_drop]; omega)]
    congr 1; omega
theorem O.same_self {α : Type} (x : O α) : O.same x x = x := by rw [O.same_eq, if_pos rfl]
theorem note_S (k : Nat) (a n : Int) (w : Bool) (h : TR) (hh : h.2.2.length ≤ 4000) : F_aqueductref04_Memory_note.S k a n w h = .ok (h.1, h.2.1, if n > 0 then ([] ++ h.2.2) ++ [(h.2.1, a, n, w)] else h.2.2) := by
  unfold F_aqueductref04_Memory_note.S
  simp only [O.twice_eq, O.same_self]
  by_cases h1 : n > 0
  · rw [O.cond_pos h1, if_pos h1, O.chk_dec (by omega), O.chk_dec (by simp; omega), O.cond_neg (by simp; omega)]
  · rw [O.cond_neg h1, if_neg h1, O.cond_neg (by omega)]
theorem rMay_S (k : Nat) (a n : Int) (g : TR) (h : g.1.size ≤ 1048576) : F_aqueductref04_Memory_May.S k a n g = .ok (mayM a n g.1.size) := by
  unfold F_aqueductref04_Memory_May.S
  by_cases h1 : a ≥ 0
  · rw [O.cond_pos h1]
    by_cases h2 : n ≥ 0
    · rw [O.cond_pos h2]
      by_cases h3 : n ≤ (g.1.size : Int)
      · rw [O.cond_pos h3, i64_in _ (by omega)]
        congr 1; unfold mayM; apply decide_eq_decide.2; omega
      · rw [O.cond_neg h3, mayM_not.2 (by omega)]
    · rw [O.cond_neg h2, mayM_not.2 (by omega)]
  · rw [O.cond_neg h1, mayM_not.2 (by omega)]
theorem rep_size (n : Int) (h : 0 ≤ n) : (repT (⟨#[0]⟩ : ByteArray) n).size = n.toNat := by
  have hr : ∀ m : Nat, (Lib.repeatL ([0] : List UInt8) m).length = m := by
    intro m
    induction m with
    | zero => rfl
    | succ m ih => simp [Lib.repeatL, ih]; try omega
  show (Lib.repeatL ([0] : List UInt8) n.toNat).toArray.size = _
  rw [List.size_toArray, hr]
theorem Rep_S (k : Nat) (n : Int) (h : 0 ≤ n ∧ n ≤ 1000000) : F_strings_Repeat.S k (⟨#[0]⟩ : ByteArray) n = .ok (repT (⟨#[0]⟩ : ByteArray) n) := by
  unfold F_strings_Repeat.S
  rw [O.chk_dec]
  refine ⟨by omega, by omega, ?_⟩
  show ((1 : Nat) : Int) * n ≤ _
  omega
theorem rep_str (n : Int) : repT (⟨#[0]⟩ : ByteArray) n = Go.Aq.strOf (List.replicate n.toNat (0 : Int)) := by
  apply list_eq
  show Lib.repeatL ([0] : List UInt8) n.toNat = ((List.replicate n.toNat (0 : Int)).map fun n => UInt8.ofNat n.toNat)
  have hr : ∀ m : Nat, Lib.repeatL ([0] : List UInt8) m = List.replicate m 0 := by
    intro m
    induction m with
    | zero => rfl
    | succ m ih => simp [Lib.repeatL, ih, List.replicate_succ]
  rw [hr, List.map_replicate]; rfl
/-- How the queues of the laws lie. -/
def layQ (n : Int) : Int × Int × Int × Int := (0, n, 512, 516)
def zerQ (g : TM) (n : Int) : TM := wrM (wrM (wrM g 0 (repT (⟨#[0]⟩ : ByteArray) (16 * n))) 512 (repT (⟨#[0]⟩ : ByteArray) 4)) 516 (repT (⟨#[0]⟩ : ByteArray) 4)
theorem Check_ok (k : Nat) (n : Int) (hn : 1 ≤ n ∧ n ≤ 8) (g : TM) (h : okM g) (hl : g.1.length = 1024) : F_devq_Check.S k (layQ n) g = .ok 0 := by
  unfold F_devq_Check.S layQ
  dsimp only
  rw [O.cond_neg (by omega), O.cond_neg (by omega), O.cond_neg (by decide), O.cond_neg (by decide), O.cond_neg (by decide), May_S k _ _ g h.1, O.bind_ok, hl, i64_in (16 * n) (by omega), mayM_iff.2 (by omega), Bool.not_true, O.cond_false, May_S k _ _ g h.1, O.bind_ok, hl, mayM_iff.2 (by omega), Bool.not_true, O.cond_false, May_S k _ _ g h.1, O.bind_ok, hl, mayM_iff.2 (by omega), Bool.not_true, O.cond_false]
theorem zerQ_ok (g : TM) (n : Int) (hn : 1 ≤ n ∧ n ≤ 8) (h : okM g) (hl : g.1.length = 1024) : okM (zerQ g n) ∧ (zerQ g n).1.length = 1024 := by
  have a := wrM_ok g 0 (repT (⟨#[0]⟩ : ByteArray) (16 * n)) h (mayM_iff.2 (by rw [rep_size _ (by omega), hl]; omega))
  have b := wrM_ok _ 512 (repT (⟨#[0]⟩ : ByteArray) 4) a.1 (mayM_iff.2 (by rw [rep_size _ (by omega), a.2, hl]; omega))
  have c := wrM_ok _ 516 (repT (⟨#[0]⟩ : ByteArray) 4) b.1 (mayM_iff.2 (by rw [rep_size _ (by omega), b.2, a.2, hl]; omega))
  exact ⟨c.1, by show (zerQ g n).1.length = 1024; unfold zerQ; rw [c.2, b.2, a.2, hl]⟩
theorem drvNew_S (k : Nat) (n : Int) (hn : 1 ≤ n ∧ n ≤ 8) (g : TM) (h : okM g) (hl : g.1.length = 1024) :
    F_drvq_New.S k (layQ n) g = .ok (.inr ((0 : Int), (zerQ g n, (layQ n, ((0 : Int), true), ((0 : Int), true), ((0 : Int), true), (0 : Int), n, [])))) := by
  have a := wrM_ok g 0 (repT (⟨#[0]⟩ : ByteArray) (16 * n)) h (mayM_iff.2 (by rw [rep_size _ (by omega), hl]; omega))
  have b := wrM_ok _ 512 (repT (⟨#[0]⟩ : ByteArray) 4) a.1 (mayM_iff.2 (by rw [rep_size _ (by omega), a.2, hl]; omega))
  unfold F_drvq_New.S
  rw [Check_ok k n hn g h hl, O.bind_ok, O.cond_neg (by simp)]
  unfold layQ
  dsimp only
  rw [i64_in (16 * n) (by omega), Rep_S k (16 * n) (by omega), O.bind_ok, Write_S k 0 _ g h, O.bind_ok, if_pos (mayM_iff.2 (by rw [rep_size _ (by omega), hl]; omega)), Rep_S k 4 (by omega), O.bind_ok]
  dsimp only
  rw [Write_S k 512 _ _ a.1, O.bind_ok, if_pos (mayM_iff.2 (by rw [rep_size _ (by omega), a.2, hl]; omega)), O.bind_ok]
  dsimp only
  rw [Write_S k 516 _ _ b.1, O.bind_ok, if_pos (mayM_iff.2 (by rw [rep_size _ (by omega), b.2, a.2, hl]; omega))]
  rfl
end Go.Proofs.YtpfddjdkafjjfaaGreat
