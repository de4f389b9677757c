/- Operations, all of them; regions in the text's order. -/
import Derived.Test.YtiefbkjoldcebaaDoorXxCall
import Derived.Orders
namespace Go.Abs
variable {K : Seat} {F F' : FZ} {β β' : BM} {ρ ρ' : Roles} {w w' : World} {s : S} {a : Act}

theorem arr_two {α : Type} {A : Array α} (d : α) (h : A.size = 2) : A = #[A.getD 0 d, A.getD 1 d] := by
  apply Array.ext
  · simp [h]
  · intro i h1 h2
    have hi : i = 0 ∨ i = 1 := by omega
    rcases hi with rfl | rfl <;> simp [Array.getD, h]

theorem op_ok (hs : FSim K F β ρ s a w) {C : Call} (hC : CallsOK K C) {io : IOp} {o : Oper} {k : S → R} {r : AV × H} {next : Act → World → Prop} {Q : Exit → Act → World → Prop}
    (h : checkX K io o.dst o.op = true) (hd : ∀ x, o.dst = some x → x < a.tmps.size) (e : xOp C io o.dst s k = some r) (hp : Post K F β ρ w s a k r next) : o.wp K.P a w next Q := by
  generalize hop : o.op = op at h
  unfold checkX at h
  split at h <;> (try simp only [Bool.and_eq_true] at h) <;> try (cases h; done)
  · subst hop; exact s_pure hs h hd e hp
  · exact s_lnew hs (.inl ⟨_, hop, h.1.2⟩) hd e hp
  · exact s_lnew hs (.inr ⟨_, rfl, hop, h.1.2⟩) hd e hp
  · rw [isTmp_eq h.1.1] at hop; exact s_laddr hs hop h.1.2 hd e hp
  · rw [isTmp_eq h.1] at hop; exact s_lload hs hop h.2 hd e hp
  · rw [isTmp_eq h.1.1.1] at hop; exact s_lstore hs hop h.1.1.2 h.1.2 (by simpa using h.2) e hp
  · rw [isNil_eq h] at hop; exact s_onil hs (.inr hop) hd e hp
  · rw [isNil_eq h] at hop; exact s_onil hs (.inl hop) hd e hp
  · rw [isTmp_eq h.1] at hop; exact s_tmov hs (.inr hop) h.2 hd e hp
  · rw [isTmp_eq h.1] at hop; exact s_tmov hs (.inl hop) h.2 hd e hp
  · rw [isTmp_eq h.1] at hop; exact s_take hs hop h.2 hd e hp
  · obtain ⟨⟨⟨⟨⟨h1, h2⟩, h3⟩, h4⟩, h5⟩, h6⟩ := h
    rw [arr_two default (beq_true.1 h1), arr_two 0 (beq_true.1 h2), isTmp_eq h3] at hop
    exact s_app hs hop h4 h5 h6 hd e hp
  · rw [isTmp_eq h.1.1.1, isTmp_eq h.1.1.2] at hop; exact s_give hs hop h.1.2 (by simpa using h.2) e hp
  · exact s_hnew hs (.inl ⟨_, hop, h.1.2⟩) hd e hp
  · exact s_hnew hs (.inr ⟨_, rfl, hop, h.1.2⟩) hd e hp
  · exact s_hload hs hop h.1 h.2 hd e hp
  · exact s_hstore hs hop h.1.1.1 h.1.2 h.1.1.2 (by simpa using h.2) e hp
  · exact s_htake hs hop h.1.1 h.1.2 hd e hp
  · rw [isTmp_eq h.1.1.2] at hop; exact s_hgive hs hop h.1.1.1 h.1.2 (by simpa using h.2) e hp
  · exact s_call hs hC hop (beq_iff_eq.1 h.1) h.2 hd e hp
  · exact s_callv hs hC hop h.1 h.2 hd e hp
end Go.Abs
