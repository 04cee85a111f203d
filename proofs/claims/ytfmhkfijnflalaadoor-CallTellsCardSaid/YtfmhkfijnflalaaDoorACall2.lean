/- What call.Put computes: told without addresses. No claim of its own. -/
import Derived.Test.YtfmhkfijnflalaaDoorACall1
namespace Go.Proofs.YtfmhkfijnflalaaDoor
open Go.RowKit Go.Am

theorem manyOne_len {k : Int} (h : k < 9223372036854775808) : (Gw.Vlq.many ([k].map Int.toNat)).length ≤ 9 := by
  have := Gw.Vlq.one_length k.toNat (by omega)
  have h2 := Gw.Vlq.size_le9 k.toNat (by omega)
  simp [Gw.Vlq.many]
  omega
theorem textOne_len (s t : List UInt8) (h : t.length ≤ 5000) : (Gw.Vlq.text s t).length ≤ s.length + t.length + 9 := by
  have := Gw.Vlq.one_length t.length (by omega)
  have h2 := Gw.Vlq.size_le9 t.length (by omega)
  unfold Gw.Vlq.text
  simp only [List.length_append]
  omega
def putV (o : Option (List UInt8)) : V := .tup [.str (o.getD []), .int .i64 (if o.isSome = true then 0 else 180)]
theorem put_pc (b : List UInt8) (c : Gw.Call.Call) (hb : b.length ≤ 100000000) (h1 : c.path.length ≤ 1048576) (h2 : c.to.length ≤ 1048576) (hn : c.n < 9223372036854775808) : PC Tryd.prog 10 [.str b, encK c] (putV (Gw.Call.put b c)) := by
  have ck := check_pc c h1 h2
  have ch := has_pc c.kind
  unfold Gw.Call.put
  unfold encK cellsK at ck
  unfold encK cellsK
  cases hc : Gw.Call.check c with
  | false =>
    rw [hc] at ck
    rw [if_neg (by decide)]
    refine PC.of tabOk mixed (fn := Tryd.f10) (by kernel_rfl) rfl (by kernel_rfl) rfl rfl ?_
    conv => whnf
    refine AC.of_pc ck rfl ?_
    conv => whnf
    refine ⟨fun _ => ?_, fun h => absurd h (by decide)⟩
    conv => whnf
    rfl
  | true =>
    rw [hc] at ck
    rw [if_pos rfl]
    obtain ⟨p, hh, hok⟩ := Gw.Call.check_some hc
    obtain ⟨l1, l2, l3⟩ := Gw.Call.lens hok
    obtain ⟨_, _, _, _, n0, _⟩ := Gw.Call.okP_spec hok
    have hk := Gw.Call.has_kind hh
    have hf := has_few hh
    have hby : Gw.Call.bytes c = Gw.Call.bytesP p c := by unfold Gw.Call.bytes; rw [hh]
    rw [hby]
    rw [hh] at ch
    have cp := fun (s : List UInt8) (hs : s.length ≤ 200000000) => vput_pc s false [c.kind] (fun z hz => by simp at hz; omega) (by simp; omega)
    have cn := fun (s : List UInt8) (hs : s.length ≤ 200000000) => vput_pc s false [c.n] (fun z hz => by simp at hz; omega) (by simp; omega)
    have ct := fun (s t : List UInt8) (hs : s.length ≤ 200000000) (ht : t.length ≤ 5000) => vtext_pc s t (by omega)
    rcases hf with ⟨_, rfl⟩ | ⟨_, rfl⟩ | ⟨_, rfl⟩ | ⟨_, rfl⟩ | ⟨_, rfl⟩ | ⟨_, rfl⟩ | ⟨_, rfl⟩
    · have k0 : (b ++ Gw.Vlq.many ([c.kind].map Int.toNat)).length ≤ 100000010 := by have := manyOne_len (k := c.kind) (by omega); rw [List.length_append]; omega
      have k1 : (Gw.Vlq.text (b ++ Gw.Vlq.many ([c.kind].map Int.toNat)) c.path).length ≤ 100005020 := by have := textOne_len (b ++ Gw.Vlq.many ([c.kind].map Int.toNat)) c.path (by omega); omega
      refine PC.of tabOk mixed (fn := Tryd.f10) (by kernel_rfl) rfl (by kernel_rfl) rfl rfl ?_
      conv => whnf
      refine AC.of_pc ck rfl ?_
      conv => whnf
      refine ⟨fun h => absurd h (by decide), fun _ => ?_⟩
      conv => whnf
      refine AC.of_pc ch rfl ?_
      conv => whnf
      refine AC.of_pc (cp b (by omega)) rfl ?_
      conv => whnf
      repeat (first | refine ⟨fun _ => ?_, fun h => absurd h (by decide)⟩ | refine ⟨fun h => absurd h (by decide), fun _ => ?_⟩ | refine ⟨fun _ => ?_, fun h => absurd (show true = false from h) (by decide)⟩ | refine ⟨fun h => absurd (show false = true from h) (by decide), fun _ => ?_⟩
              (conv => whnf))
      refine AC.of_pc (ct (b ++ Gw.Vlq.many ([c.kind].map Int.toNat)) c.path (by omega) (by omega)) rfl ?_
      conv => whnf
      repeat (first | refine ⟨fun _ => ?_, fun h => absurd h (by decide)⟩ | refine ⟨fun h => absurd h (by decide), fun _ => ?_⟩ | refine ⟨fun _ => ?_, fun h => absurd (show true = false from h) (by decide)⟩ | refine ⟨fun h => absurd (show false = true from h) (by decide), fun _ => ?_⟩
              (conv => whnf))
      show V.tup [V.str _, V.int .i64 0] = V.tup [V.str _, V.int .i64 0]
      congr 2
      simp [Gw.Call.bytesP, Gw.Call.ptext, Gw.Call.pnum, Gw.Vlq.text, Gw.Vlq.many]
    · have k0 : (b ++ Gw.Vlq.many ([c.kind].map Int.toNat)).length ≤ 100000010 := by have := manyOne_len (k := c.kind) (by omega); rw [List.length_append]; omega
      have k1 : (Gw.Vlq.text (b ++ Gw.Vlq.many ([c.kind].map Int.toNat)) c.path).length ≤ 100005020 := by have := textOne_len (b ++ Gw.Vlq.many ([c.kind].map Int.toNat)) c.path (by omega); omega
      have k2 : (Gw.Vlq.text (Gw.Vlq.text (b ++ Gw.Vlq.many ([c.kind].map Int.toNat)) c.path) c.data).length ≤ 100010030 := by have := textOne_len (Gw.Vlq.text (b ++ Gw.Vlq.many ([c.kind].map Int.toNat)) c.path) c.data (by omega); omega
      refine PC.of tabOk mixed (fn := Tryd.f10) (by kernel_rfl) rfl (by kernel_rfl) rfl rfl ?_
      conv => whnf
      refine AC.of_pc ck rfl ?_
      conv => whnf
      refine ⟨fun h => absurd h (by decide), fun _ => ?_⟩
      conv => whnf
      refine AC.of_pc ch rfl ?_
      conv => whnf
      refine AC.of_pc (cp b (by omega)) rfl ?_
      conv => whnf
      repeat (first | refine ⟨fun _ => ?_, fun h => absurd h (by decide)⟩ | refine ⟨fun h => absurd h (by decide), fun _ => ?_⟩ | refine ⟨fun _ => ?_, fun h => absurd (show true = false from h) (by decide)⟩ | refine ⟨fun h => absurd (show false = true from h) (by decide), fun _ => ?_⟩
              (conv => whnf))
      refine AC.of_pc (ct (b ++ Gw.Vlq.many ([c.kind].map Int.toNat)) c.path (by omega) (by omega)) rfl ?_
      conv => whnf
      repeat (first | refine ⟨fun _ => ?_, fun h => absurd h (by decide)⟩ | refine ⟨fun h => absurd h (by decide), fun _ => ?_⟩ | refine ⟨fun _ => ?_, fun h => absurd (show true = false from h) (by decide)⟩ | refine ⟨fun h => absurd (show false = true from h) (by decide), fun _ => ?_⟩
              (conv => whnf))
      refine AC.of_pc (ct (Gw.Vlq.text (b ++ Gw.Vlq.many ([c.kind].map Int.toNat)) c.path) c.data (by omega) (by omega)) rfl ?_
      conv => whnf
      repeat (first | refine ⟨fun _ => ?_, fun h => absurd h (by decide)⟩ | refine ⟨fun h => absurd h (by decide), fun _ => ?_⟩ | refine ⟨fun _ => ?_, fun h => absurd (show true = false from h) (by decide)⟩ | refine ⟨fun h => absurd (show false = true from h) (by decide), fun _ => ?_⟩
              (conv => whnf))
      show V.tup [V.str _, V.int .i64 0] = V.tup [V.str _, V.int .i64 0]
      congr 2
      simp [Gw.Call.bytesP, Gw.Call.ptext, Gw.Call.pnum, Gw.Vlq.text, Gw.Vlq.many]
    · have k0 : (b ++ Gw.Vlq.many ([c.kind].map Int.toNat)).length ≤ 100000010 := by have := manyOne_len (k := c.kind) (by omega); rw [List.length_append]; omega
      have k1 : (Gw.Vlq.text (b ++ Gw.Vlq.many ([c.kind].map Int.toNat)) c.path).length ≤ 100005020 := by have := textOne_len (b ++ Gw.Vlq.many ([c.kind].map Int.toNat)) c.path (by omega); omega
      refine PC.of tabOk mixed (fn := Tryd.f10) (by kernel_rfl) rfl (by kernel_rfl) rfl rfl ?_
      conv => whnf
      refine AC.of_pc ck rfl ?_
      conv => whnf
      refine ⟨fun h => absurd h (by decide), fun _ => ?_⟩
      conv => whnf
      refine AC.of_pc ch rfl ?_
      conv => whnf
      refine AC.of_pc (cp b (by omega)) rfl ?_
      conv => whnf
      repeat (first | refine ⟨fun _ => ?_, fun h => absurd h (by decide)⟩ | refine ⟨fun h => absurd h (by decide), fun _ => ?_⟩ | refine ⟨fun _ => ?_, fun h => absurd (show true = false from h) (by decide)⟩ | refine ⟨fun h => absurd (show false = true from h) (by decide), fun _ => ?_⟩
              (conv => whnf))
      refine AC.of_pc (ct (b ++ Gw.Vlq.many ([c.kind].map Int.toNat)) c.path (by omega) (by omega)) rfl ?_
      conv => whnf
      repeat (first | refine ⟨fun _ => ?_, fun h => absurd h (by decide)⟩ | refine ⟨fun h => absurd h (by decide), fun _ => ?_⟩ | refine ⟨fun _ => ?_, fun h => absurd (show true = false from h) (by decide)⟩ | refine ⟨fun h => absurd (show false = true from h) (by decide), fun _ => ?_⟩
              (conv => whnf))
      refine AC.of_pc (cn (Gw.Vlq.text (b ++ Gw.Vlq.many ([c.kind].map Int.toNat)) c.path) (by omega)) rfl ?_
      conv => whnf
      repeat (first | refine ⟨fun _ => ?_, fun h => absurd h (by decide)⟩ | refine ⟨fun h => absurd h (by decide), fun _ => ?_⟩ | refine ⟨fun _ => ?_, fun h => absurd (show true = false from h) (by decide)⟩ | refine ⟨fun h => absurd (show false = true from h) (by decide), fun _ => ?_⟩
              (conv => whnf))
      show V.tup [V.str _, V.int .i64 0] = V.tup [V.str _, V.int .i64 0]
      congr 2
      simp [Gw.Call.bytesP, Gw.Call.ptext, Gw.Call.pnum, Gw.Vlq.text, Gw.Vlq.many]
    · have k0 : (b ++ Gw.Vlq.many ([c.kind].map Int.toNat)).length ≤ 100000010 := by have := manyOne_len (k := c.kind) (by omega); rw [List.length_append]; omega
      have k1 : (Gw.Vlq.text (b ++ Gw.Vlq.many ([c.kind].map Int.toNat)) c.path).length ≤ 100005020 := by have := textOne_len (b ++ Gw.Vlq.many ([c.kind].map Int.toNat)) c.path (by omega); omega
      have k2 : (Gw.Vlq.text (Gw.Vlq.text (b ++ Gw.Vlq.many ([c.kind].map Int.toNat)) c.path) c.to).length ≤ 100010030 := by have := textOne_len (Gw.Vlq.text (b ++ Gw.Vlq.many ([c.kind].map Int.toNat)) c.path) c.to (by omega); omega
      refine PC.of tabOk mixed (fn := Tryd.f10) (by kernel_rfl) rfl (by kernel_rfl) rfl rfl ?_
      conv => whnf
      refine AC.of_pc ck rfl ?_
      conv => whnf
      refine ⟨fun h => absurd h (by decide), fun _ => ?_⟩
      conv => whnf
      refine AC.of_pc ch rfl ?_
      conv => whnf
      refine AC.of_pc (cp b (by omega)) rfl ?_
      conv => whnf
      repeat (first | refine ⟨fun _ => ?_, fun h => absurd h (by decide)⟩ | refine ⟨fun h => absurd h (by decide), fun _ => ?_⟩ | refine ⟨fun _ => ?_, fun h => absurd (show true = false from h) (by decide)⟩ | refine ⟨fun h => absurd (show false = true from h) (by decide), fun _ => ?_⟩
              (conv => whnf))
      refine AC.of_pc (ct (b ++ Gw.Vlq.many ([c.kind].map Int.toNat)) c.path (by omega) (by omega)) rfl ?_
      conv => whnf
      repeat (first | refine ⟨fun _ => ?_, fun h => absurd h (by decide)⟩ | refine ⟨fun h => absurd h (by decide), fun _ => ?_⟩ | refine ⟨fun _ => ?_, fun h => absurd (show true = false from h) (by decide)⟩ | refine ⟨fun h => absurd (show false = true from h) (by decide), fun _ => ?_⟩
              (conv => whnf))
      refine AC.of_pc (ct (Gw.Vlq.text (b ++ Gw.Vlq.many ([c.kind].map Int.toNat)) c.path) c.to (by omega) (by omega)) rfl ?_
      conv => whnf
      repeat (first | refine ⟨fun _ => ?_, fun h => absurd h (by decide)⟩ | refine ⟨fun h => absurd h (by decide), fun _ => ?_⟩ | refine ⟨fun _ => ?_, fun h => absurd (show true = false from h) (by decide)⟩ | refine ⟨fun h => absurd (show false = true from h) (by decide), fun _ => ?_⟩
              (conv => whnf))
      show V.tup [V.str _, V.int .i64 0] = V.tup [V.str _, V.int .i64 0]
      congr 2
      simp [Gw.Call.bytesP, Gw.Call.ptext, Gw.Call.pnum, Gw.Vlq.text, Gw.Vlq.many]
    · have k0 : (b ++ Gw.Vlq.many ([c.kind].map Int.toNat)).length ≤ 100000010 := by have := manyOne_len (k := c.kind) (by omega); rw [List.length_append]; omega
      refine PC.of tabOk mixed (fn := Tryd.f10) (by kernel_rfl) rfl (by kernel_rfl) rfl rfl ?_
      conv => whnf
      refine AC.of_pc ck rfl ?_
      conv => whnf
      refine ⟨fun h => absurd h (by decide), fun _ => ?_⟩
      conv => whnf
      refine AC.of_pc ch rfl ?_
      conv => whnf
      refine AC.of_pc (cp b (by omega)) rfl ?_
      conv => whnf
      repeat (first | refine ⟨fun _ => ?_, fun h => absurd h (by decide)⟩ | refine ⟨fun h => absurd h (by decide), fun _ => ?_⟩ | refine ⟨fun _ => ?_, fun h => absurd (show true = false from h) (by decide)⟩ | refine ⟨fun h => absurd (show false = true from h) (by decide), fun _ => ?_⟩
              (conv => whnf))
      refine AC.of_pc (cn (b ++ Gw.Vlq.many ([c.kind].map Int.toNat)) (by omega)) rfl ?_
      conv => whnf
      repeat (first | refine ⟨fun _ => ?_, fun h => absurd h (by decide)⟩ | refine ⟨fun h => absurd h (by decide), fun _ => ?_⟩ | refine ⟨fun _ => ?_, fun h => absurd (show true = false from h) (by decide)⟩ | refine ⟨fun h => absurd (show false = true from h) (by decide), fun _ => ?_⟩
              (conv => whnf))
      show V.tup [V.str _, V.int .i64 0] = V.tup [V.str _, V.int .i64 0]
      congr 2
      simp [Gw.Call.bytesP, Gw.Call.ptext, Gw.Call.pnum, Gw.Vlq.many]
    · have k0 : (b ++ Gw.Vlq.many ([c.kind].map Int.toNat)).length ≤ 100000010 := by have := manyOne_len (k := c.kind) (by omega); rw [List.length_append]; omega
      have k1 : (Gw.Vlq.text (b ++ Gw.Vlq.many ([c.kind].map Int.toNat)) c.data).length ≤ 100005020 := by have := textOne_len (b ++ Gw.Vlq.many ([c.kind].map Int.toNat)) c.data (by omega); omega
      refine PC.of tabOk mixed (fn := Tryd.f10) (by kernel_rfl) rfl (by kernel_rfl) rfl rfl ?_
      conv => whnf
      refine AC.of_pc ck rfl ?_
      conv => whnf
      refine ⟨fun h => absurd h (by decide), fun _ => ?_⟩
      conv => whnf
      refine AC.of_pc ch rfl ?_
      conv => whnf
      refine AC.of_pc (cp b (by omega)) rfl ?_
      conv => whnf
      repeat (first | refine ⟨fun _ => ?_, fun h => absurd h (by decide)⟩ | refine ⟨fun h => absurd h (by decide), fun _ => ?_⟩ | refine ⟨fun _ => ?_, fun h => absurd (show true = false from h) (by decide)⟩ | refine ⟨fun h => absurd (show false = true from h) (by decide), fun _ => ?_⟩
              (conv => whnf))
      refine AC.of_pc (ct (b ++ Gw.Vlq.many ([c.kind].map Int.toNat)) c.data (by omega) (by omega)) rfl ?_
      conv => whnf
      repeat (first | refine ⟨fun _ => ?_, fun h => absurd h (by decide)⟩ | refine ⟨fun h => absurd h (by decide), fun _ => ?_⟩ | refine ⟨fun _ => ?_, fun h => absurd (show true = false from h) (by decide)⟩ | refine ⟨fun h => absurd (show false = true from h) (by decide), fun _ => ?_⟩
              (conv => whnf))
      show V.tup [V.str _, V.int .i64 0] = V.tup [V.str _, V.int .i64 0]
      congr 2
      simp [Gw.Call.bytesP, Gw.Call.ptext, Gw.Call.pnum, Gw.Vlq.text, Gw.Vlq.many]
    · have k0 : (b ++ Gw.Vlq.many ([c.kind].map Int.toNat)).length ≤ 100000010 := by have := manyOne_len (k := c.kind) (by omega); rw [List.length_append]; omega
      refine PC.of tabOk mixed (fn := Tryd.f10) (by kernel_rfl) rfl (by kernel_rfl) rfl rfl ?_
      conv => whnf
      refine AC.of_pc ck rfl ?_
      conv => whnf
      refine ⟨fun h => absurd h (by decide), fun _ => ?_⟩
      conv => whnf
      refine AC.of_pc ch rfl ?_
      conv => whnf
      refine AC.of_pc (cp b (by omega)) rfl ?_
      conv => whnf
      repeat (first | refine ⟨fun _ => ?_, fun h => absurd h (by decide)⟩ | refine ⟨fun h => absurd h (by decide), fun _ => ?_⟩ | refine ⟨fun _ => ?_, fun h => absurd (show true = false from h) (by decide)⟩ | refine ⟨fun h => absurd (show false = true from h) (by decide), fun _ => ?_⟩
              (conv => whnf))
      show V.tup [V.str _, V.int .i64 0] = V.tup [V.str _, V.int .i64 0]
      congr 2
end Go.Proofs.YtfmhkfijnflalaaDoor
