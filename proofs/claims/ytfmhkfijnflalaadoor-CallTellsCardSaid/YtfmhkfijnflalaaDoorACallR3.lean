/- What the document's bytes and Put for call compute: told without addresses. No claim of its own. -/
import Derived.Test.YtfmhkfijnflalaaDoorACallR2
namespace Go.Proofs.YtfmhkfijnflalaaDoor
open Go.Am

theorem rbytes_pc (c : Gw.Call.Call) (hc : Gw.Call.check c = true) (hn : Gw.Call.Nn c) : PC Tryd.prog 24 [encK c] (.str (Gw.Call.bytes c)) := by
  obtain ⟨p, hh, hok⟩ := Gw.Call.check_some hc
  obtain ⟨l1, l2, l3⟩ := Gw.Call.lens hok
  obtain ⟨_, _, _, _, n0, _⟩ := Gw.Call.okP_spec hok
  have hk := Gw.Call.has_kind hh
  have ch := rof_pc c.kind
  rw [hh] at ch
  have hf := has_few hh
  have hby : Gw.Call.bytes c = Gw.Call.bytesP p c := by unfold Gw.Call.bytes; rw [hh]
  rw [hby]
  obtain ⟨k, ek⟩ : ∃ k : Nat, c.kind = k := ⟨c.kind.toNat, by omega⟩
  obtain ⟨n, en⟩ : ∃ n : Nat, c.n = n := ⟨c.n.toNat, by omega⟩
  have hn' : n < 9223372036854775808 := by unfold Gw.Call.Nn at hn; omega
  have hone := rone_pc k (by omega)
  have honen := rone_pc n hn'
  have g0 := Gw.Call.one9 (n := k) (by omega)
  have g1 := Gw.Call.one9 hn'
  unfold encK cellsK Gw.Call.bytesP
  rw [ek] at ch ⊢
  rw [en]
  rw [Int.toNat_natCast]
  have gp := textOne_len (Gw.Vlq.one k) c.path (by omega)
  have gd := textOne_len (Gw.Vlq.one k) c.data (by omega)
  have gt := textOne_len (Gw.Vlq.text (Gw.Vlq.one k) c.path) c.to (by omega)
  have gd2 := textOne_len (Gw.Vlq.text (Gw.Vlq.one k) c.path) c.data (by omega)
  rcases hf with ⟨_, rfl⟩ | ⟨_, rfl⟩ | ⟨_, rfl⟩ | ⟨_, rfl⟩ | ⟨_, rfl⟩ | ⟨_, rfl⟩ | ⟨_, rfl⟩
  all_goals
    refine PC.of tabOk mixed (fn := Tryd.f24) (by kernel_rfl) rfl (by kernel_rfl) rfl rfl ?_
    conv => whnf
    refine AC.of_pc ch rfl ?_
    conv => whnf
    refine AC.of_pc hone rfl ?_
    conv => whnf
    repeat (first | (first | refine ⟨fun _ => ?_, fun h => absurd h (by decide)⟩ | refine ⟨fun h => absurd h (by decide), fun _ => ?_⟩ | refine ⟨fun _ => ?_, fun h => absurd (show true = false from h) (by decide)⟩ | refine ⟨fun h => absurd (show false = true from h) (by decide), fun _ => ?_⟩) | refine AC.of_pc (rtext_pc _ _ (by omega)) rfl ?_ | refine AC.of_pc honen rfl ?_ | refine ⟨by omega, ?_⟩
            (conv => whnf))
  all_goals
    apply congrArg V.str
    simp [Gw.Call.ptext, Gw.Call.pnum, Gw.Vlq.text]
theorem rput_pc (b : List UInt8) (c : Gw.Call.Call) (hb : b.length ≤ 100000000) (h1 : c.path.length ≤ 100000) (h2 : c.to.length ≤ 100000) (hn : Gw.Call.Nn c) : PC Tryd.prog 11 [.str b, encK c] (putV (Gw.Call.put b c)) := by
  have ck := rcallcheck_pc c h1 h2
  unfold Gw.Call.put
  cases hc : Gw.Call.check c with
  | false =>
    unfold encK cellsK at ck ⊢
    rw [hc] at ck
    rw [if_neg (by decide)]
    refine PC.of tabOk mixed (fn := Tryd.f11) (by kernel_rfl) rfl (by kernel_rfl) rfl rfl ?_
    conv => whnf
    refine AC.of_pc ck rfl ?_
    conv => whnf
    refine ⟨fun _ => ?_, fun h => absurd h (by decide)⟩
    conv => whnf
    rfl
  | true =>
    have hby := rbytes_pc c hc hn
    have hs := Gw.Call.bytes_small hc hn
    unfold encK cellsK at ck hby ⊢
    rw [hc] at ck
    rw [if_pos rfl]
    refine PC.of tabOk mixed (fn := Tryd.f11) (by kernel_rfl) rfl (by kernel_rfl) rfl rfl ?_
    conv => whnf
    refine AC.of_pc ck rfl ?_
    conv => whnf
    refine ⟨fun h => absurd h (by decide), fun _ => ?_⟩
    conv => whnf
    refine AC.of_pc hby rfl ?_
    conv => whnf
    refine ⟨by omega, ?_⟩
    conv => whnf
    rfl
end Go.Proofs.YtfmhkfijnflalaaDoor
