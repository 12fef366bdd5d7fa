/- What reading back wants of variables' names: plain. -/
import Derived.Test.YtiefbdblefliaaaDoorWt4
import Derived.Test.YtiefbdblefliaaaDoorWrn
namespace Go.Proofs.YtiefbdblefliaaaDoor
open Go.RowKit

theorem itoa_pos {n : Int} (h : 0 ≤ n) : Lib.itoa n = Lib.decDigits n.toNat := by
  unfold Lib.itoa
  rw [if_neg (by omega)]
theorem digit_kind {c : UInt8} (h : 48 ≤ c.toNat ∧ c.toNat ≤ 57) : kindB 1 c.toNat = true := by
  unfold kindB namedB digitB
  have h1 : (48 : Int) ≤ (c.toNat : Int) := by omega
  have h2 : (c.toNat : Int) ≤ 57 := by omega
  simp [h1, h2]
theorem var_plain : VarOk (nmV []) := fun n h => by
  refine ⟨95, Lib.itoa n, rfl, by decide, fun c hc => ?_⟩
  have hc : c ∈ 95 :: Lib.itoa n := hc
  rcases List.mem_cons.1 hc with rfl | hc
  · decide
  · rw [itoa_pos h] at hc
    exact digit_kind (dec_digits _ c hc)
theorem itoa_inj {n n' : Int} (h : I64 n) (h' : I64 n') (e : Lib.itoa n = Lib.itoa n') : n = n' := by
  have h1 := atoi_itoa h.1 h.2
  rw [e, atoi_itoa h'.1 h'.2] at h1
  injection h1 with h1
  exact h1.symm
theorem good_fit : ∀ {t : T}, t.good → t.fit
  | .nil, h => h.elim
  | .mk k n s m a, ⟨h, hs⟩ => by
    have z : (⟨#[]⟩ : ByteArray).size ≤ 4096 := by decide
    rcases h with ⟨_, h1, h2, rfl, _⟩ | ⟨_, h1, rfl, _⟩ | ⟨_, rfl, h1, _⟩ | ⟨_, rfl, h1, _⟩
    · exact ⟨⟨by omega, by omega⟩, z, fun i hi => good_fit (hs i hi)⟩
    · exact ⟨h1, z, fun i hi => good_fit (hs i hi)⟩
    · exact ⟨⟨by decide, by decide⟩, h1.1, fun i hi => good_fit (hs i hi)⟩
    · exact ⟨⟨by decide, by decide⟩, h1.1, fun i hi => good_fit (hs i hi)⟩
theorem fit_vars : ∀ {t : T}, t.wr → t.fit → t.varsIn fun n => 0 ≤ n ∧ I64 n
  | .nil, h, _ => h.elim
  | .mk k n s m a, h, hf => ⟨fun e => by subst e; exact ⟨wr_var h, hf.1⟩, fun e i hi => by subst e; exact fit_vars ((wr_cmp h).2.2 i hi) (hf.2.2 i hi)⟩
/-- A term, written by no names, is read back as one that is alike. -/
theorem back_alikeX {X : Prop} {t : T} (hw : t.wr) (hf : t.fit) {s : ByteArray} (hs : s = ba (txB (nmV []) t).1)
    (hX : X → ∀ (u : ByteArray) (R : List UInt8), R = [] ∨ R = [32, 46] → u.data.toList = (txB (nmV []) t).1 ++ R → ∃ tks, (tkB (nmV []) t).1 tks ∧ toksN u 0 [] = toksN u (0 + (txB (nmV []) t).1.length) tks ∧ tks.length ≤ 900) :
    (∃ p e, sentN s = .error (p, e) ∧ ((e = 33 ∧ 4094 < s.size) ∨ (e = 34 ∧ ¬ X) ∨ (e = 52 ∧ 65 < (lvB t).1))) ∨ ∃ u ns qs, sentN s = .ok (u, ns) ∧ Alk t u [] qs := by
  rcases sent_back (X := X) var_plain hw hs hX with h | h
  · obtain ⟨l', _, _, h3, _⟩ := alk_rn (V := nmV []) (D := fun n => 0 ≤ n ∧ I64 n) (fun n n' h h' e => itoa_inj h.2 h'.2 (by
        have e : (95 : UInt8) :: Lib.itoa n = 95 :: Lib.itoa n' := e
        injection e))
      (fun n h e => by
        have e : ba (95 :: Lib.itoa n) = ba [95] := e
        have e2 : (95 :: Lib.itoa n) = [95] := by rw [← ba_list (95 :: Lib.itoa n), e, ba_list]
        injection e2 with _ e2
        rw [itoa_pos h.1] at e2
        exact dec_ne _ e2) t hw (fit_vars hw hf) [] (fun n h => by cases h)
    exact .inr ⟨_, _, _, h, h3⟩
  · exact .inl h
theorem back_alike {t : T} (hw : t.wr) (hf : t.fit) {s : ByteArray} (hs : s = ba (txB (nmV []) t).1) :
    (∃ p e, sentN s = .error (p, e) ∧ (e = 33 ∨ e = 34 ∨ e = 52)) ∨ ∃ u ns qs, sentN s = .ok (u, ns) ∧ Alk t u [] qs :=
  (back_alikeX (X := False) hw hf hs fun h => h.elim).imp (fun ⟨p, e, h1, h2⟩ => ⟨p, e, h1, h2.imp (·.1) fun h => h.imp (·.1) (·.1)⟩) id
end Go.Proofs.YtiefbdblefliaaaDoor
