/- What the small reference functions of the package wal compute: told without addresses. No claim of its own. -/
import Derived.Test.YtjhblbipjljojaaDoorAWal13
namespace Go.Proofs.YtjhblbipjljojaaDoor
open Go.Am

theorem rzeros_pc (n : Nat) (h : n ≤ 65536) : PC Tryd.prog 43 [.int .i64 n] (.str (Gw.Wal.zeros n)) := by
  refine PC.of tabOk mixed (fn := Tryd.f43) (by kernel_rfl) rfl (by kernel_rfl) rfl rfl ?_
  conv => whnf
  have hw : IntKind.i64.wrap (16 * max (n : Int) 0) = ((n * 16 : Nat) : Int) := by rw [w64 (by omega) (by omega)]; omega
  rw [hw]
  refine ⟨⟨by omega, rfl, fits_small (by rw [Int.toNat_natCast]; omega) (by decide)⟩, ?_⟩
  conv => whnf
  refine ⟨Gw.Wal.zeros n, ?_, ?_⟩
  · show 0 + ((n * 16 : Nat) : Int).toNat ≤ (repl ((n * 16 : Nat) : Int).toNat [V.int .u8 0]).length ∧ ((repl ((n * 16 : Nat) : Int).toNat [V.int .u8 0]).drop 0).take ((n * 16 : Nat) : Int).toNat = _
    rw [repl_bytes, Int.toNat_natCast]
    exact bytesV_all' (by simp)
  conv => whnf
theorem rmark_pc (q b : Nat) (st : List UInt8) (hq : 1 ≤ q) (hq2 : q ≤ 201) (hb1 : 1 ≤ b) (hb : b ≤ 1000001) (hs : st.length ≤ 200) : PC Tryd.prog 49 [.int .i64 q, .int .i64 b, .str st] (.tup [.str (Gw.Wal.markSecs q b st), .int .i64 0]) := by
  have h1 := rone_pc b (by omega)
  have h3 := Gw.Rec.one_le (n := b) (by omega)
  have h2 := rtext_pc (Gw.Vlq.one b) st (by omega)
  have hpk := rpack_pc (q : Int) (Gw.Wal.markText b st)
  have hmay := Gw.Wal.may_mark (q := q) (b := b) (st := st) (by omega) (by omega) (by omega) hs
  have q1 : Gw.Rec.pack (q : Int) (Gw.Wal.markText b st) = Gw.Wal.markSecs q b st := by unfold Gw.Rec.pack; rw [if_pos hmay, Int.toNat_natCast]; rfl
  have q2 : Gw.Rec.packErr (q : Int) (Gw.Wal.markText b st) = 0 := by unfold Gw.Rec.packErr; rw [if_pos hmay]
  rw [q1, q2] at hpk
  refine PC.of tabOk mixed (fn := Tryd.f49) (by kernel_rfl) rfl (by kernel_rfl) rfl rfl ?_
  conv => whnf
  refine AC.of_pc h1 rfl ?_
  conv => whnf
  refine AC.of_pc h2 rfl ?_
  conv => whnf
  refine AC.of_pc hpk rfl ?_
  conv => whnf
def slotV (o : Option (Nat × Nat × List UInt8)) : V := .agg [.int .i64 (bQ o), .int .i64 (bB o), .str (bS o)]
theorem rslot_pc (nil : Bool) (d : Gw.Disk.Disk) (hc : Gw.Disk.check d = true) (hl : d.loose.length ≤ 1048576) (odd : Nat) (ho : odd < 2) : PC Tryd.prog 39 [encD nil d, .int .i64 odd] (slotV (Gw.Wal.slotIn (Gw.Disk.read d (odd * Gw.Wal.slotSz d : Nat) (Gw.Wal.slotSz d)) odd)) := by
  obtain ⟨z1, z2, _, _⟩ := Gw.Disk.check_spec hc
  have hsz : Gw.Wal.slotSz d = d.size.toNat / 4 := rfl
  have hodd : odd * Gw.Wal.slotSz d ≤ d.size.toNat / 4 := by
    rw [hsz]
    have : odd = 0 ∨ odd = 1 := by omega
    rcases this with rfl | rfl <;> omega
  have hrd := rread_pc nil d (odd * Gw.Wal.slotSz d : Nat) (Gw.Wal.slotSz d) (by unfold I64; omega) (by omega) (by unfold I64; omega) (by unfold I64; omega) hl
  have hl0 := Gw.Wal.read_len hc (odd * Gw.Wal.slotSz d) (Gw.Wal.slotSz d) (by omega)
  generalize Gw.Disk.read d (odd * Gw.Wal.slotSz d : Nat) (Gw.Wal.slotSz d) = s at *
  generalize Gw.Disk.readErr d _ _ = e at hrd
  have hsl : s.length ≤ 1048576 := by omega
  obtain ⟨N, hN⟩ : ∃ N : Nat, d.size = (N : Int) := ⟨d.size.toNat, by omega⟩
  rw [hN, Int.toNat_natCast] at hsz hodd
  have v1 : IntKind.i64.wrap ((N : Int).tdiv 4) = ((Gw.Wal.slotSz d : Nat) : Int) := by rw [tdiv_pos (by omega), w64 (by omega) (by omega), hsz]; rfl
  have v2 : IntKind.i64.wrap ((odd : Int) * IntKind.i64.wrap ((N : Int).tdiv 4)) = ((odd * Gw.Wal.slotSz d : Nat) : Int) := by rw [v1, w64 (by omega) (by rw [← Int.natCast_mul]; omega)]; simp
  generalize odd * Gw.Wal.slotSz d = at_ at *
  generalize Gw.Wal.slotSz d = z at *
  rw [← v1, ← v2] at hrd
  obtain ⟨size, firm, loose⟩ := d
  simp only at hN
  subst hN
  have hrd : PC Tryd.prog _ [.agg [.int .i64 (N : Int), .str firm.data.toList, .lst nil 2 (loose.map encP) .none], _, _] _ := hrd
  show PC Tryd.prog _ [.agg [.int .i64 (N : Int), .str firm.data.toList, .lst nil 2 (loose.map encP) .none], _] _
  refine PC.of tabOk mixed (fn := Tryd.f39) (by kernel_rfl) rfl (by kernel_rfl) rfl rfl ?_
  conv => whnf
  refine AC.of_pc hrd rfl ?_
  rcases s with _ | ⟨c, s⟩
  · conv => whnf
    repeat (first | refine ⟨fun _ => ?_, fun h => absurd h (by decide)⟩ | refine ⟨fun h => absurd h (by decide), fun _ => ?_⟩ | refine ⟨fun _ => ?_, fun h => absurd (show true = false from h) (by decide)⟩ | refine ⟨fun h => absurd (show false = true from h) (by decide), fun _ => ?_⟩
            (conv => whnf))
    rfl
  have hc1 := UInt8.toNat_lt c
  have vq : IntKind.i64.wrap (IntKind.i64.wrap (c.toNat : Int) - 1) = (c.toNat : Int) - 1 := by rw [w64 (x := (c.toNat : Int)) (by omega) (by omega), w64 (by omega) (by omega)]
  conv => whnf
  refine ⟨fun h => absurd h (by simp; first | done | omega | fail "x"), fun _ => ?_⟩
  conv => whnf
  refine ⟨c, ⟨by decide, rfl⟩, ?_⟩
  have hS : Gw.Wal.slotIn (c :: s) odd = if 2 ≤ c.toNat ∧ c.toNat ≤ 201 ∧ (c.toNat - 1) % 2 = odd then (match Gw.Wal.takeMark (c :: s) (c.toNat - 1) with | none => none | some (b, st) => some (c.toNat - 1, b, st)) else none := rfl
  have hN : (¬ (2 ≤ c.toNat ∧ c.toNat ≤ 201 ∧ (c.toNat - 1) % 2 = odd)) → slotV (Gw.Wal.slotIn (c :: s) odd) = .agg [.int .i64 0, .int .i64 0, .str []] := fun h => by rw [hS, if_neg h]; rfl
  have hY : (2 ≤ c.toNat ∧ c.toNat ≤ 201 ∧ (c.toNat - 1) % 2 = odd) → slotV (Gw.Wal.slotIn (c :: s) odd) = slotV (match Gw.Wal.takeMark (c :: s) (c.toNat - 1) with | none => none | some (b, st) => some (c.toNat - 1, b, st)) := fun h => by rw [hS, if_pos h]
  generalize slotV (Gw.Wal.slotIn (c :: s) odd) = RV at *
  clear hS
  by_cases q1 : c.toNat < 2
  · rw [hN (by omega)]
    conv => whnf
    repeat (first | refine ⟨fun h => absurd h (by decide), fun _ => ?_⟩
                  | refine ⟨fun _ => ?_, fun h => absurd h (by decide)⟩
                  | refine ⟨fun h => absurd h (by rw [vq]; simp; first | done | omega | fail "x"), fun _ => ?_⟩
                  | refine ⟨fun _ => ?_, fun h => absurd h (by rw [vq]; simp; first | done | omega | fail "x")⟩
                  | fail "end"
            (conv => whnf))
  by_cases q2 : 201 < c.toNat
  · rw [hN (by omega)]
    conv => whnf
    repeat (first | refine ⟨fun h => absurd h (by decide), fun _ => ?_⟩
                  | refine ⟨fun _ => ?_, fun h => absurd h (by decide)⟩
                  | refine ⟨fun h => absurd h (by rw [vq]; simp; first | done | omega | fail "x"), fun _ => ?_⟩
                  | refine ⟨fun _ => ?_, fun h => absurd h (by rw [vq]; simp; first | done | omega | fail "x")⟩
                  | fail "end"
            (conv => whnf))
  obtain ⟨n, hn, hn1, hn2⟩ : ∃ n : Nat, c.toNat = n + 1 ∧ 1 ≤ n ∧ n ≤ 200 := ⟨c.toNat - 1, by omega, by omega, by omega⟩
  have vq' : IntKind.i64.wrap (IntKind.i64.wrap (c.toNat : Int) - 1) = (n : Int) := by rw [vq]; omega
  have vm : (IntKind.i64.wrap (IntKind.i64.wrap (c.toNat : Int) - 1)).tmod 2 = ((n % 2 : Nat) : Int) := by rw [vq', tmod_pos (by omega)]; omega
  rw [show c.toNat - 1 = n by omega] at hN hY
  by_cases q3 : n % 2 = odd
  rotate_left
  · rw [hN (by omega)]
    conv => whnf
    repeat (first | refine ⟨fun h => absurd h (by decide), fun _ => ?_⟩
                  | refine ⟨fun _ => ?_, fun h => absurd h (by decide)⟩
                  | refine ⟨fun h => absurd h (by rw [vq]; simp; first | done | omega | fail "x"), fun _ => ?_⟩
                  | refine ⟨fun _ => ?_, fun h => absurd h (by rw [vq]; simp; first | done | omega | fail "x")⟩
                  | refine ⟨fun h => absurd h (by rw [vm]; simp; first | done | omega | fail "x"), fun _ => ?_⟩
                  | refine ⟨fun _ => ?_, fun h => absurd h (by rw [vm]; simp; first | done | omega | fail "x")⟩
                  | fail "end"
            (conv => whnf))
  rw [hY ⟨by omega, by omega, q3⟩]
  have htk := rtakeRec_pc (c :: s) (n : Int) hsl
  have ht0 : Gw.Wal.takeMark (c :: s) n = match Gw.Rec.take (c :: s) (n : Int) with
    | none => none
    | some (t, _) => Gw.Wal.markOf t := rfl
  rw [ht0]
  have hpb : ∀ p k, Gw.Rec.take (c :: s) (n : Int) = some (p, k) → p.length ≤ 40000 := fun p k h => (Gw.Rec.may_iff.1 (Gw.Rec.take_more h).1).2.2
  generalize Gw.Rec.take (c :: s) (n : Int) = T at *
  rw [← vq'] at htk
  conv => whnf
  repeat (first | refine ⟨fun h => absurd h (by decide), fun _ => ?_⟩
                | refine ⟨fun _ => ?_, fun h => absurd h (by decide)⟩
                | refine ⟨fun h => absurd h (by rw [vq]; simp; first | done | omega | fail "x"), fun _ => ?_⟩
                | refine ⟨fun _ => ?_, fun h => absurd h (by rw [vq]; simp; first | done | omega | fail "x")⟩
                | refine ⟨fun h => absurd h (by rw [vm]; simp; first | done | omega | fail "x"), fun _ => ?_⟩
                | refine ⟨fun _ => ?_, fun h => absurd h (by rw [vm]; simp; first | done | omega | fail "x")⟩
                | fail "end"
          (conv => whnf))
  refine AC.of_pc htk rfl ?_
  rcases T with _ | ⟨p, k⟩
  · simp only [recTookV]
    conv => whnf
    refine AC.of_pc (rtake_pc []) rfl ?_
    rw [show tookV [] = .tup [.int .i64 0, .str [], .int .i64 40] from rfl]
    conv => whnf
    refine AC.of_pc (rtakeText_pc []) rfl ?_
    rw [show tookTextV [] = .tup [.str [], .str [], .int .i64 40] from rfl]
    conv => whnf
    repeat (first | refine ⟨fun _ => ?_, fun h => absurd h (by decide)⟩ | refine ⟨fun h => absurd h (by decide), fun _ => ?_⟩ | refine ⟨fun _ => ?_, fun h => absurd (show true = false from h) (by decide)⟩ | refine ⟨fun h => absurd (show false = true from h) (by decide), fun _ => ?_⟩
            (conv => whnf))
    rfl
  have hpl := hpb p k rfl
  simp only [recTookV]
  conv => whnf
  refine AC.of_pc (rtake_pc p) rfl ?_
  unfold Gw.Wal.markOf
  unfold tookV
  rcases hv : Gw.Vlq.take p with _ | ⟨b, u⟩
  · simp only
    conv => whnf
    refine AC.of_pc (rtakeText_pc []) rfl ?_
    rw [show tookTextV [] = .tup [.str [], .str [], .int .i64 40] from rfl]
    conv => whnf
    repeat (first | refine ⟨fun _ => ?_, fun h => absurd h (by decide)⟩ | refine ⟨fun h => absurd h (by decide), fun _ => ?_⟩ | refine ⟨fun _ => ?_, fun h => absurd (show true = false from h) (by decide)⟩ | refine ⟨fun h => absurd (show false = true from h) (by decide), fun _ => ?_⟩
            (conv => whnf))
    rfl
  simp only
  have hbb := (Gw.Vlq.takeF_some p 0 0 b u (by omega) hv).2.2
  have h4 := rtakeText_pc (p.drop u)
  rw [tookT_eq] at h4
  conv => whnf
  refine AC.of_pc h4 rfl ?_
  rcases Gw.Rec.takeT (p.drop u) with _ | ⟨st, rest⟩
  · simp only
    conv => whnf
    repeat (first | refine ⟨fun _ => ?_, fun h => absurd h (by decide)⟩ | refine ⟨fun h => absurd h (by decide), fun _ => ?_⟩ | refine ⟨fun _ => ?_, fun h => absurd (show true = false from h) (by decide)⟩ | refine ⟨fun h => absurd (show false = true from h) (by decide), fun _ => ?_⟩
            (conv => whnf))
    rfl
  simp only
  by_cases r1 : rest = []
  rotate_left
  · rw [if_neg (fun h => r1 h.1)]
    conv => whnf
    repeat (first | refine ⟨fun h => absurd h (by decide), fun _ => ?_⟩
                  | refine ⟨fun _ => ?_, fun h => absurd h (by decide)⟩
                  | refine ⟨fun h => absurd h (by simp; first | done | omega | fail "x"), fun _ => ?_⟩
                  | refine ⟨fun _ => ?_, fun h => absurd h (by simp; first | done | omega | fail "x")⟩
                  | fail "end"
            (conv => whnf))
    rfl
  subst r1
  by_cases r2 : b < 1
  · rw [if_neg (by omega)]
    conv => whnf
    repeat (first | refine ⟨fun h => absurd h (by decide), fun _ => ?_⟩
                  | refine ⟨fun _ => ?_, fun h => absurd h (by decide)⟩
                  | refine ⟨fun h => absurd h (by simp; first | done | omega | fail "x"), fun _ => ?_⟩
                  | refine ⟨fun _ => ?_, fun h => absurd h (by simp; first | done | omega | fail "x")⟩
                  | fail "end"
            (conv => whnf))
    rfl
  by_cases r3 : 1000001 < b
  · rw [if_neg (by omega)]
    conv => whnf
    repeat (first | refine ⟨fun h => absurd h (by decide), fun _ => ?_⟩
                  | refine ⟨fun _ => ?_, fun h => absurd h (by decide)⟩
                  | refine ⟨fun h => absurd h (by simp; first | done | omega | fail "x"), fun _ => ?_⟩
                  | refine ⟨fun _ => ?_, fun h => absurd h (by simp; first | done | omega | fail "x")⟩
                  | fail "end"
            (conv => whnf))
    rfl
  rw [if_pos ⟨rfl, by omega, by omega⟩]
  conv => whnf
  repeat (first | refine ⟨fun h => absurd h (by decide), fun _ => ?_⟩
                | refine ⟨fun _ => ?_, fun h => absurd h (by decide)⟩
                | refine ⟨fun h => absurd h (by simp; first | done | omega | fail "x"), fun _ => ?_⟩
                | refine ⟨fun _ => ?_, fun h => absurd h (by simp; first | done | omega | fail "x")⟩
                | fail "end"
          (conv => whnf))
  rw [vq']
  rfl
theorem rwnew_pc (size : Int) : PC Tryd.prog 17 [.int .i64 size] (newV size) := by
  unfold newV Gw.Wal.new
  obtain ⟨N, hN, hs, hc, hlo⟩ := new_parts size
  have h1 := rnew_pc size
  have hmk := rmark_pc 1 1 [] (by decide) (by decide) (by decide) (by decide) (by decide)
  have hlen : (Gw.Wal.markSecs 1 1 []).length = 16 := by decide
  have hsz : Gw.Wal.slotSz (Gw.Disk.new size) = N / 4 := by unfold Gw.Wal.slotSz; rw [hs, Int.toNat_natCast]
  have hso2 : Gw.Wal.slotOf (Gw.Disk.new size) 1 = N / 4 := by unfold Gw.Wal.slotOf; rw [hsz]; rfl
  have hst2 : Gw.Wal.start (Gw.Disk.new size) = 2 * (N / 4) := by unfold Gw.Wal.start; rw [hsz]
  rw [hsz, hso2, hst2]
  generalize Gw.Disk.new size = d at *
  have hwr := rwrite_pc true d (N / 4 : Nat) (Gw.Wal.ba (Gw.Wal.markSecs 1 1 [])) (by rw [hs]; unfold I64; omega) (by omega) (by unfold I64; omega) (by rw [hlo]; decide) (by rw [Gw.Wal.ba_size, hlen]; decide)
  rw [Gw.Wal.ba_list] at hwr
  have hgood := fun (h : 1 ≤ N / 4) => Gw.Wal.write_spec hc (N / 4) 1 (Gw.Wal.markSecs 1 1 []) hlen (by omega)
  have hfl : (N / 4 : Nat) ≥ 1 → PC Tryd.prog 50 [encD false (Gw.Disk.write d ((N / 4 : Nat) : Int) (Gw.Wal.ba (Gw.Wal.markSecs 1 1 [])))] (encD true (Gw.Disk.flush (Gw.Disk.write d ((N / 4 : Nat) : Int) (Gw.Wal.ba (Gw.Wal.markSecs 1 1 []))))) := fun h => by
    obtain ⟨_, g2, g3, g4, _⟩ := hgood h
    have := rflush_pc false (Gw.Disk.write d ((N / 4 : Nat) : Int) (Gw.Wal.ba (Gw.Wal.markSecs 1 1 []))) (by rw [g2, hs]; unfold I64; omega) (by rw [g2]; omega) (by rw [g4, hlo]; decide)
    rw [if_pos g3] at this
    exact this
  have hwe : (N / 4 : Nat) ≥ 1 → Gw.Disk.writeErr d ((N / 4 : Nat) : Int) (Gw.Wal.ba (Gw.Wal.markSecs 1 1 [])) = 0 := fun h => (hgood h).1
  have hq : IntKind.i64.wrap (((Gw.Wal.markSecs 1 1 []).length : Int).tdiv 16) = 1 := by rw [hlen]; decide
  have v1 : IntKind.i64.wrap ((N : Int).tdiv 4) = ((N / 4 : Nat) : Int) := by rw [tdiv_pos (by omega), w64 (by omega) (by omega)]; rfl
  have v2 : IntKind.i64.wrap (2 * IntKind.i64.wrap ((N : Int).tdiv 4)) = ((2 * (N / 4) : Nat) : Int) := by rw [v1, w64 (by omega) (by omega)]; omega
  generalize Gw.Disk.write d _ (Gw.Wal.ba (Gw.Wal.markSecs 1 1 [])) = D at *
  generalize Gw.Disk.writeErr d _ (Gw.Wal.ba (Gw.Wal.markSecs 1 1 [])) = we at *
  generalize Gw.Wal.markSecs 1 1 [] = ms at *
  clear hgood
  obtain ⟨size', firm, loose⟩ := d
  simp only at hs hlo
  subst hs hlo
  have hwr : PC Tryd.prog 42 [.agg [.int .i64 (N : Int), .str firm.data.toList, .lst true 2 [] .none], .int .i64 (N / 4 : Nat), .str ms] _ := hwr
  have h1 : PC Tryd.prog _ [.int .i64 size] (.agg [.int .i64 (N : Int), .str firm.data.toList, .lst true 2 [] .none]) := h1
  rw [← v1] at hwr
  refine PC.ofS tabOk mixed (fn := Tryd.f17) (by kernel_rfl) rfl (by kernel_rfl) rfl rfl ?_
  conv => whnf
  refine AC.of_pc h1 rfl ?_
  conv => whnf
  refine AC.of_pc hmk rfl ?_
  conv => whnf
  rw [hq, v1, hlen]
  refine ⟨fun h => ?_, fun h => ?_⟩
  · have h := of_decide_eq_true h
    rw [if_pos (by omega)]
    conv => whnf
    exact SubV.tup2 (subW (.nil _ _ _) (.nil _ _ _)) (.refl _)
  have h := of_decide_eq_false h
  rw [if_neg (by omega)]
  have hfl := hfl (by omega)
  rw [hwe (by omega), if_pos rfl] at hwr
  conv => whnf
  refine AC.of_pc hwr rfl ?_
  conv => whnf
  refine ⟨_, rfl, hfl, ?_⟩
  conv => whnf
  rw [v2]
  refine ⟨by kernel_rfl, ?_⟩
  conv => whnf
  exact SubV.tup2 (subW (.refl _) (.nil _ _ _)) (.refl _)
end Go.Proofs.YtjhblbipjljojaaDoor
