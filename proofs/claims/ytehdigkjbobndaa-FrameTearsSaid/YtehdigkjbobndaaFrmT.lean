/- Layer 4, FrameTears: To, Encode and Same over plain words. -/
import Derived.Test.YtehdigkjbobndaaEvW
import Derived.Test.YtehdigkjbobndaaFrmW
import Derived.Test.YtehdigkjbobndaaFrmPlain
import Derived.Test.YtehdigkjbobndaaOpen
import Derived.Test.YtehdigkjbobndaaPrt
import Derived.Test.YtehdigkjbobndaaPFrmTx0
import Derived.Test.YtehdigkjbobndaaPFrmTx1
namespace Go.Proofs.Ytehdigkjbobndaa.FrmT
open Go.RowKit Go.Proofs.Ytehdigkjbobndaa Go.Proofs.Ytehdigkjbobndaa.PFrmT Go.Proofs.YtehdigkjbobndaaW.PrintWords Go.Proofs.YtehdigkjbobndaaW.PrintMore
set_option maxRecDepth 100000

theorem equal (a b : List Int) (ha : ∀ x ∈ a, 0 ≤ x ∧ x < 256) (hb : ∀ x ∈ b, 0 ≤ x ∧ x < 256) : bytes_Equal.f a b = some (decide (a = b)) := by
  unfold bytes_Equal.f
  congr 1
  by_cases h : a = b
  · subst h; simp
  · rw [decide_eq_false h]
    exact beq_eq_false_iff_ne.2 fun e => h (strOfNums_inj ha hb (by
      have := congrArg List.toArray e
      cases hs : strOfNums a; cases ht : strOfNums b
      rw [hs, ht] at this
      simpa [ByteArray.toList_eq] using this))
theorem sameF (a b c : Int) (l : List Int) (a' b' c' : Int) (l' : List Int) (h : ∀ x ∈ l, 0 ≤ x ∧ x < 256) (h' : ∀ x ∈ l', 0 ≤ x ∧ x < 256) : frame_Same.f a b c l a' b' c' l' = some (decide (a = a' ∧ b = b' ∧ c = c' ∧ l = l')) := by
  unfold frame_Same.f
  rw [equal l l' h h', Option.bind_some]
  by_cases h1 : a = a'
  · by_cases h2 : b = b'
    · by_cases h3 : c = c'
      · rw [if_pos h1, if_pos h2, if_pos h3]; simp [h1, h2, h3]
      · rw [if_pos h1, if_pos h2, if_neg h3]; simp [h3]
    · rw [if_pos h1, if_neg h2]; simp [h2]
  · rw [if_neg h1]; simp [h1]
theorem toF (a b c : Int) (l : List Int) : incipitlaw04_To.f a b c l = some (a, b, c, l.take 250) := by
  unfold incipitlaw04_To.f
  have h1 : 0 ≤ mn (l.length : Int) 250 := mn_nonneg l.length 250
  have h2 : mn (l.length : Int) 250 ≤ (l.length : Int) := mn_le l.length 250
  have h3 : (l.take 250).length ≤ 250 := List.length_take_le _ _
  have h4 : l.take (mn (l.length : Int) 250).toNat = l.take 250 := take_mn l 250
  rw [Option.bind_some, h4, if_pos h1, if_pos h2, if_pos (by simp; omega)]
  rfl
end Go.Proofs.Ytehdigkjbobndaa.FrmT
namespace Go.Proofs.Ytehdigkjbobndaa
open Go.RowKit Go.Proofs.Ytehdigkjbobndaa.PFrmT
theorem to4_calls (k e p : Int) (A : Option Addr) (c : Nat) (b : List Int) (w : World) (h : Rd w .u8 A c b) :
    Calls Try.prog 36 #[.agg #[.int .i64 k, .int .i64 e, .int .i64 p, .slice A b.length c]] w fun en w' => ∃ v, en = .returned (.agg #[.int .i64 k, .int .i64 e, .int .i64 p, v]) ∧ Own w' w.heap.size 5 .u8 v (b.take 250) ∧ Up w w' :=
  (incipitlaw04_To.calls k e p A c b _ _ _ _ w (kd_of_rd h) h.le (FrmT.toF k e p b)).mono fun _ _ ⟨v, h3, h4, h5⟩ => ⟨v, h3, own_of_kd h4 fun x hx => h.wf x (List.mem_of_mem_take hx), ⟨h5⟩⟩
theorem frmSame_calls (a b c : Int) (A : Option Addr) (ca : Nat) (l : List Int) (a' b' c' : Int) (B : Option Addr) (cb : Nat) (l' : List Int) (w : World) (h : Rd w .u8 A ca l) (h' : Rd w .u8 B cb l') :
    Calls Try.prog 41 #[.agg #[.int .i64 a, .int .i64 b, .int .i64 c, .slice A l.length ca], .agg #[.int .i64 a', .int .i64 b', .int .i64 c', .slice B l'.length cb]] w fun en w' => en = .returned (.bool (decide (a = a' ∧ b = b' ∧ c = c' ∧ l = l'))) ∧ Up w w' :=
  (frame_Same.calls a b c A ca l a' b' c' B cb l' _ w (kd_of_rd h) h.le (kd_of_rd h') h'.le (FrmT.sameF a b c l a' b' c' l' h.u8 h'.u8)).mono fun _ _ ⟨h3, h5⟩ => ⟨h3, ⟨h5⟩⟩
end Go.Proofs.Ytehdigkjbobndaa
