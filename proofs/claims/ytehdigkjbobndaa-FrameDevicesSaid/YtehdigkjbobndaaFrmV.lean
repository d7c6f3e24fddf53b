/- Layer 4: Open, the reference's Open, Check and Same, To and Of, over plain words. -/
import Derived.Test.YtehdigkjbobndaaFrmVPure
import Derived.Test.YtehdigkjbobndaaFrmDec
import Derived.Test.YtehdigkjbobndaaRefDec
namespace Go.Proofs.Ytehdigkjbobndaa
open Go.RowKit Go.Proofs.Ytehdigkjbobndaa.PFrmV Go.Proofs.Ytehdigkjbobndaa.FrmVPure Go.Proofs.YtehdigkjbobndaaW.PrintWords Go.Proofs.YtehdigkjbobndaaW.PrintMore
set_option maxRecDepth 100000

theorem kdv_of_own {w : World} {base base' e : Nat} {k : IntKind} {v : Value} {l : List Int} (h : Own w base e k v l) : Kd.V (Kd.int k) e w base' (fun _ => True) v l := Kd.R_V (kd_of_own (ok := fun _ => True) h fun _ _ => trivial)
theorem frmOpen_calls (A : Option Addr) (c : Nat) (l : List Int) (page : Int) (A2 : Option Addr) (c2 : Nat) (ks : List Int) (w : World) (h1 : Rd w .u8 A c l) (h2 : Rd w .i64 A2 c2 ks) (hk : ks.length < 1000000) :
    Calls Try.prog 47 #[.slice A l.length c, .int .i64 page, .slice A2 ks.length c2] w (DecPost w (openD (frmDec l) page ks)) := by
  obtain ⟨n, hn⟩ := Ev.rounds (openF l h1.u8 page ks hk)
  have hu : ∀ x ∈ (openD (frmDec l) page ks).2.2.2.1, InK .u8 x := fun x hx => by
    unfold openD at hx
    split at hx
    · split at hx
      · split at hx
        · exact InK.of_u8 (frmDec_u8 h1.u8 x hx).1 (frmDec_u8 h1.u8 x hx).2
        · simp at hx
      · simp at hx
    · simp at hx
  exact (frame_Open.calls n A c l page A2 c2 ks _ _ _ _ _ w (kd_of_rd h1) h1.le (kd_of_rd h2) h2.le hn).mono fun e w' ⟨v, h3, h4, h5⟩ => ⟨v, h3, own_of_kd h4 hu, ⟨h5⟩⟩
/-- A frame that shares its bytes with another one. -/
structure SharePost (w : World) (r : Int × Int × Int × List Int × Int) (en : Ending) (w' : World) : Prop where mk ::
  out : ∃ B d, en = .returned (.tuple #[.agg #[.int .i64 r.1, .int .i64 r.2.1, .int .i64 r.2.2.1, .slice B r.2.2.2.1.length d], .int .i64 r.2.2.2.2]) ∧ Rd w' .u8 B d r.2.2.2.1 ∧ Up w w'
theorem ref4Open_calls (A : Option Addr) (c : Nat) (l : List Int) (base : Nat) (page : Int) (A2 : Option Addr) (c2 : Nat) (ks : List Int) (w : World) (h1 : Own w base 5 .u8 (.slice A l.length c) l) (h2 : Rd w .i64 A2 c2 ks) (hk : ks.length < 1000000) :
    Calls Try.prog 48 #[.slice A l.length c, .int .i64 page, .slice A2 ks.length c2] w (SharePost w (openD (frmDec l) page ks)) := by
  have hu8 : ∀ x ∈ l, 0 ≤ x ∧ x < 256 := fun x hx => (h1.wf x hx).u8
  obtain ⟨n, hn⟩ := Ev.rounds (ropenF l hu8 page ks hk)
  have hu : ∀ x ∈ (openD (frmDec l) page ks).2.2.2.1, InK .u8 x := fun x hx => by
    unfold openD at hx
    split at hx
    · split at hx
      · split at hx
        · exact InK.of_u8 (frmDec_u8 hu8 x hx).1 (frmDec_u8 hu8 x hx).2
        · simp at hx
      · simp at hx
    · simp at hx
  refine (incipitref04_Open.calls n (fun _ => True) A c l page A2 c2 ks _ _ _ _ _ w (kdv_of_own h1) (kd_of_rd h2) h2.le hn).mono fun e w' ⟨v, h3, h4, h5⟩ => ?_
  obtain ⟨B, d, rfl⟩ := Kd.V_slice h4
  obtain ⟨_, h6, h7⟩ := Kd.V_reads' h4
  exact ⟨B, d, h3, rd_of_kdc h7 h6 hu, ⟨h5⟩⟩
theorem to4_calls (k e p : Int) (A : Option Addr) (c : Nat) (b : List Int) (w : World) (h : Rd w .u8 A c b) :
    Calls Try.prog 36 #[.agg #[.int .i64 k, .int .i64 e, .int .i64 p, .slice A b.length c]] w fun en w' => ∃ v, en = .returned (.agg #[.int .i64 k, .int .i64 e, .int .i64 p, v]) ∧ Own w' w.heap.size 5 .u8 v (b.take 250) ∧ Up w w' :=
  (incipitlaw04_To.calls k e p A c b _ _ _ _ w (kd_of_rd h) h.le (toF k e p b)).mono fun _ _ ⟨v, h3, h4, h5⟩ => ⟨v, h3, own_of_kd h4 fun x hx => h.wf x (List.mem_of_mem_take hx), ⟨h5⟩⟩
theorem of4_calls (k e p : Int) (A : Option Addr) (c base : Nat) (b : List Int) (w : World) (h : Own w base 5 .u8 (.slice A b.length c) b) :
    Calls Try.prog 37 #[.agg #[.int .i64 k, .int .i64 e, .int .i64 p, .slice A b.length c]] w fun en w' => ∃ B d, en = .returned (.agg #[.int .i64 k, .int .i64 e, .int .i64 p, .slice B b.length d]) ∧ Rd w' .u8 B d b ∧ Up w w' := by
  refine (incipitlaw04_Of.calls k e p (fun _ => True) A c b _ _ _ _ w (kdv_of_own h) (ofF k e p b)).mono fun _ _ ⟨v, h3, h4, h5⟩ => ?_
  obtain ⟨B, d, rfl⟩ := Kd.V_slice h4
  obtain ⟨_, h6, h7⟩ := Kd.V_reads' h4
  exact ⟨B, d, h3, rd_of_kdc h7 h6 h.wf, ⟨h5⟩⟩
theorem ref4Check_calls (k e p : Int) (A : Option Addr) (c : Nat) (b : List Int) (w : World) (h : Rd w .u8 A c b) :
    Calls Try.prog 39 #[.agg #[.int .i64 k, .int .i64 e, .int .i64 p, .slice A b.length c]] w fun en w' => en = .returned (.int .i64 (frmCheck k e p b)) ∧ Up w w' := by
  obtain ⟨n, hn⟩ := Ev.rounds (refCheck k e p b)
  exact (incipitref04_Check.calls n k e p A c b _ w (kd_of_rd h) h.le hn).mono fun _ _ ⟨h3, h5⟩ => ⟨h3, ⟨h5⟩⟩
theorem ref4Same_calls (a b c : Int) (A : Option Addr) (ca : Nat) (l : List Int) (a' b' c' : Int) (B : Option Addr) (cb : Nat) (l' : List Int) (w : World) (h : Rd w .u8 A ca l) (h' : Rd w .u8 B cb l') (hl : l.length < 4611686018427387904) :
    Calls Try.prog 49 #[.agg #[.int .i64 a, .int .i64 b, .int .i64 c, .slice A l.length ca], .agg #[.int .i64 a', .int .i64 b', .int .i64 c', .slice B l'.length cb]] w fun en w' => en = .returned (.bool (decide (a = a' ∧ b = b' ∧ c = c' ∧ l = l'))) ∧ Up w w' := by
  obtain ⟨n, hn⟩ := Ev.rounds (sameR a b c l a' b' c' l' hl)
  exact (incipitref04_Same.calls n a b c A ca l a' b' c' B cb l' _ w (kd_of_rd h) h.le (kd_of_rd h') h'.le hn).mono fun _ _ ⟨h3, h5⟩ => ⟨h3, ⟨h5⟩⟩
end Go.Proofs.Ytehdigkjbobndaa
