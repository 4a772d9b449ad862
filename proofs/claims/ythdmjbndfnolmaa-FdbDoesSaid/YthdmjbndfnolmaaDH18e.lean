/- The library's sort at an fdb's rows, by the kit's contract: the row holds the same things, rising. -/
import Derived.Shelf.SlSortCmp.WholeK
import Derived.Test.YthdmjbndfnolmaaDH18s
import Derived.Test.YthdmjbndfnolmaaDH18v
namespace Go.Proofs.Ythdmjbndfnolmaa
open Go.RowKit Go.Shelf Go.ChangeMaps Go.Sort
set_option linter.unusedVariables false
theorem lt_of_cmp (x y : VT) : ltOf cmpV x y = ltV x y := cmpV_lt x y
theorem swo_cmp : SWO (ltOf cmpV) where
  irrefl x := by rw [lt_of_cmp]; exact ltV_irrefl x
  trans x y z h1 h2 := by rw [lt_of_cmp] at *; exact ltV_trans h1 h2
  ntrans x y z h1 h2 := by rw [lt_of_cmp] at *; exact ltV_ntrans h1 h2
theorem cmp_lays (blk off size : Nat) (w : World) : CmpLays Try.prog 24 #[] vcells 4 cmpV blk off size w := fun _ _ _ _ x y => closure x y _
/-- Not falling. -/
def Rise (l : List VT) : Prop := l.Pairwise fun a b => ltV b a = false
theorem rise_of {d' : Array VT} {n : Nat} (hs : d'.size = n) (h : SortedIn (ltOf cmpV) 0 n d') : Rise d'.toList := by
  unfold Rise
  rw [List.pairwise_iff_getElem]
  intro i j hi hj hij
  have hi' : i < d'.size := by simpa using hi
  have hj' : j < d'.size := by simpa using hj
  have := h i j (Nat.zero_le _) hij (by omega)
  rw [lt_of_cmp, getElem!_pos d' j hj', getElem!_pos d' i hi'] at this
  simpa using this
/-- Nothing to sort: the steps that are gone through. -/
theorem ins_none (p : Option Addr) (cap : Nat) (fv : Value) (w : World) : Calls Try.prog 41 #[.slice p 0 cap, .int .i64 0, .int .i64 0, fv] w fun e w' => e = .returned (.tuple #[]) ∧ w' = w := by
  go_enter Try.func41, Try.ntmps41
  go_wp2
  refine wp_loop_rounds 1 ?_
  rw [rounds_succ]
  go_wp2
  go_end0
  exact ⟨rfl, rfl⟩
set_option maxHeartbeats 1000000 in
theorem pdq_none (p : Option Addr) (cap : Nat) (lim : Int) (fv : Value) (w : World) : Calls Try.prog 39 #[.slice p 0 cap, .int .i64 0, .int .i64 0, .int .i64 lim, fv] w fun e w' => e = .returned (.tuple #[]) ∧ w' = w := by
  go_enter Try.func39, Try.ntmps39
  go_wp2
  refine wp_loop_rounds 1 ?_
  rw [rounds_succ]
  go_wp2_with (go_at_call 41; refine (ins_none _ _ _ _).mono ?_; rintro e w' ⟨rfl, rfl⟩)
  (try simp only [Exit.inBlock, Exit.then]); refine bodyPost_ret (results_none rfl _ _ _) rfl ?_
  exact ⟨rfl, rfl⟩
theorem bits_none (w : World) : Calls Try.prog 40 #[.int .u64 0] w fun e w' => e = .returned (.int .i64 (Lib.bitLen 0 : Nat)) ∧ w' = w :=
  Any.bits_Len (SlLaysF0.n15.bits (P := Try.prog) (ρ := Try.sortSeen_ren) { Try.sortSeen with }) 0 w (by omega) (by omega)
set_option maxHeartbeats 1000000 in
theorem sort_none (p : Option Addr) (cap : Nat) (fv : Value) (w : World) : Calls Try.prog 33 #[.slice p 0 cap, fv] w fun e w' => e = .returned (.tuple #[]) ∧ w' = w := by
  go_enter Try.func33, Try.ntmps33
  go_wp2_with (first | (go_at_call 40; refine (bits_none _).mono ?_; rintro e w' ⟨rfl, rfl⟩) | (go_at_call 39; refine (pdq_none _ _ _ _ _).mono ?_; rintro e w' ⟨rfl, rfl⟩))
  go_end0
  exact ⟨rfl, rfl⟩
theorem sort_in (base : Nat) (v : Value) (ys : List VT) (w : World) (hown : w.ownsRow base 44 4 v ys.length (flatVT ys)) (hb : base ≤ w.heap.size) (hN : ys.length ≤ 1000000) :
    Calls Try.prog 33 #[v, .func (.func 24) #[] #[]] w fun e w' => e = .returned (.tuple #[]) ∧ ∃ zs : List VT, zs.Perm ys ∧ Rise zs ∧ w'.ownsRow base 44 4 v ys.length (flatVT zs) ∧ Below base w w' := by
  rcases hown.2 with ⟨rfl, h0⟩ | ⟨g, cap, cur, rfl, hg, hcell, h1, h2, h3, h4⟩
  · have hy : ys = [] := by
      have := hown.1
      cases ys with
      | nil => rfl
      | cons y ys => rw [List.length_cons] at h0; omega
    subst hy
    refine (sort_none none 0 _ w).mono ?_
    rintro e w' ⟨rfl, rfl⟩
    exact ⟨rfl, [], List.Perm.refl _, List.Pairwise.nil, hown, Below.refl _ _⟩
  · have hglt := (Array.getElem?_eq_some_iff.1 hcell).1
    have hF : (flatK vcells 4 ys.toArray).size = ys.length * 4 := by simp
    have hH : HoldsK vcells 4 w g 0 ys.toArray := holds_blk hcell (by rw [flatK_vt, hF]; exact h4)
    have eg : ∀ args w, (callFunc 24 args).run Try.prog w = .ok (.enter 24 args) w := enters_of Try.func24 (by kernel_rfl) rfl
    have hl : ys.toArray.size = ys.length := by simp
    have hcon := AnyQ.slices_SortFunc Try.sortSeen 4 Try.isAgg44 Try.sizeOf44 vcells (fun _ => rfl) (fun x v hv => by simp [vcells] at hv; rcases hv with rfl | rfl | rfl | rfl <;> rfl) cmpV swo_cmp 24 #[] g 0 cap ys.toArray w eg (cmp_lays g 0 _ w) hH hglt (by rw [hl]; omega)
    change Calls Try.prog 33 _ _ _ at hcon
    rw [hl] at hcon
    refine hcon.mono ?_
    rintro e w' ⟨rfl, d', n, os, hp, hs, rfl⟩
    have hd : d'.toList.toArray = d' := by simp
    have hsz : d'.size = ys.length := by rw [hp.1, hl]
    have hperm : d'.toList.Perm ys := by
      have := hp.2.2
      rw [show d'.extract 0 ys.length = d' by rw [← hsz]; simp, show ys.toArray.extract 0 ys.length = ys.toArray by rw [← hl]; simp] at this
      simpa using this
    refine ⟨rfl, d'.toList, hperm, rise_of hsz hs, ?_, ?_⟩
    · have := owns_sorted (zs := d'.toList) (ys := ys) (n := n) (os := os) (by simpa using hsz) hg hcell h1 h2 h3
      rwa [hd] at this
    · exact (Below.refl _ w).grown (grownBy_sorted_id (n := n) (os := os) _) hb (fun k hk => by cases hk; exact hg)
end Go.Proofs.Ythdmjbndfnolmaa
