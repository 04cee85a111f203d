/- The law ViewLast, walked without addresses. No claim of its own. -/
import Derived.Test.YtkflmicpifohhaaAAwake8
import Derived.Test.YtkflmicpifohhaaATreeF
import Derived.Test.YtkflmicpifohhaaViewPl
namespace Go.Proofs.Ytkflmicpifohhaa
open Go.Am

theorem viewLast_pc (nil : Bool) (l : List Gw.Tree.Node) (dir : Int) (hi : ∀ n ∈ l, I64 n.id) (hl : l.length ≤ 9223372036854775807) :
    PC Try.prog 7 [.lst nil 8 (encN l) .none, .int .i64 dir] (.bool true) := by
  have hel := encN_len l
  have haw := awake_pc
  have hfw := fewN_pc nil l 100 hl
  refine PC.of tabOk mixed (fn := Try.f7) (by kernel_rfl) rfl (by kernel_rfl) rfl rfl ?_
  conv => whnf
  refine AC.of_pc haw rfl ?_
  conv => whnf
  refine AC.of_pc hfw rfl ?_
  cases hfew : fewN l 100 with
  | false =>
    conv => whnf
    repeat (first | refine ⟨fun _ => ?_, fun h => absurd h (by decide)⟩ | refine ⟨fun h => absurd h (by decide), fun _ => ?_⟩ | refine ⟨fun _ => ?_, fun h => absurd (show true = false from h) (by decide)⟩ | refine ⟨fun h => absurd (show false = true from h) (by decide), fun _ => ?_⟩
            (conv => whnf))
  | true =>
  obtain ⟨hlen, hshort⟩ := fewN_spec hfew
  have hck := treeCheck_pc nil l hi (by omega)
  conv => whnf
  repeat (first | refine ⟨fun _ => ?_, fun h => absurd h (by decide)⟩ | refine ⟨fun h => absurd h (by decide), fun _ => ?_⟩ | refine ⟨fun _ => ?_, fun h => absurd (show true = false from h) (by decide)⟩ | refine ⟨fun h => absurd (show false = true from h) (by decide), fun _ => ?_⟩
          (conv => whnf))
  refine AC.of_pc hck rfl ?_
  cases hc : Gw.Tree.check l with
  | false =>
    conv => whnf
    repeat (first | refine ⟨fun _ => ?_, fun h => absurd h (by decide)⟩ | refine ⟨fun h => absurd h (by decide), fun _ => ?_⟩ | refine ⟨fun _ => ?_, fun h => absurd (show true = false from h) (by decide)⟩ | refine ⟨fun h => absurd (show false = true from h) (by decide), fun _ => ?_⟩
            (conv => whnf))
  | true =>
  obtain ⟨N, q, hls, hmem, hris, hNlen⟩ : ∃ (N : List (List UInt8)) (q : Bool), PC Try.prog 12 [.lst nil 8 (encN l) .none, .int .i64 dir] (.lst q 1 (encS1 N) .none) ∧ (∀ s, s ∈ N ↔ ∃ n, Gw.View.child l dir s = some n) ∧
      (∀ (i : Nat) (h : i + 1 < N.length), Gw.Name.less N[i] N[i + 1] = true) ∧ N.length ≤ l.length := by
    obtain ⟨q, hls⟩ := vList_pc nil l dir hi (by omega) (fun n hn => by have := (hshort n hn).1; omega)
    refine ⟨_, q, hls, fun s => Gw.View.mem_list hc, fun i h => Gw.View.list_rises l dir h, ?_⟩
    have := Gw.Lists.len_of_sub (l := Gw.View.list l dir) (m := l.map (·.name)) (Gw.View.list_nodup l dir) fun s hs => by
      obtain ⟨n, hn⟩ := (Gw.View.mem_list hc).1 hs
      obtain ⟨h1, _, h3⟩ := Gw.View.child_mem hn
      exact List.mem_map.2 ⟨n, h1, h3⟩
    rwa [List.length_map] at this
  have hNl := encS1_len N
  conv => whnf
  repeat (first | refine ⟨fun _ => ?_, fun h => absurd h (by decide)⟩ | refine ⟨fun h => absurd h (by decide), fun _ => ?_⟩ | refine ⟨fun _ => ?_, fun h => absurd (show true = false from h) (by decide)⟩ | refine ⟨fun h => absurd (show false = true from h) (by decide), fun _ => ?_⟩
          (conv => whnf))
  refine AC.of_pc hls rfl ?_
  conv => whnf
  refine AW.loop (fun k : Nat => [(.tmp 0, .v (.lst nil 8 (encN l) .none)), (.tmp 1, .v (.int .i64 dir)), (.tmp 5, .v (.bool true)), (.tmp 6, .v (.lst q 1 (encS1 N) .none)), (.tmp 7, .v (.int .i64 k))]) 0
    (fun k => k ≤ N.length) (fun k => N.length - k) (by decide) 0 (Nat.zero_le _) ⟨rfl, rfl, rfl, rfl, rfl, rfl, rfl, rfl, rfl, rfl, trivial⟩ ?_
  rintro k hk
  refine ev_sound tabOk mixed _ _ _ _ ?_
  conv => whnf
  rw [hNl]
  refine ⟨fun h => ?_, fun h => ?_⟩
  · have h := of_decide_eq_true h
    have hlt : k < N.length := by omega
    have hg := encS1_get hlt
    obtain ⟨nd, hnd⟩ := (hmem N[k]).1 (List.getElem_mem hlt)
    obtain ⟨h1, h2, h3⟩ := Gw.View.child_mem hnd
    have hpd : nd.parent = dir := by
      unfold Gw.View.inDir at h2
      simp only [Bool.and_eq_true, decide_eq_true_eq] at h2
      exact h2.1
    have hch := child_pc nil l dir N[k] hi (by omega)
    have htf := tFind_pc nil l nd.id hi (by omega)
    rw [hnd] at hch
    rw [hc, if_pos rfl, Gw.Tree.find_mem hc h1] at htf
    have hch : PC Try.prog 19 [.lst nil 8 (encN l) .none, .int .i64 dir, .str N[k]] (.tup [.int .i64 nd.id, .bool true]) := hch
    have htf : PC Try.prog 21 [.lst nil 8 (encN l) .none, .int .i64 nd.id] (.tup [.agg (cellsN nd), .bool true]) := htf
    have hlast := fun m hm hin hs => Gw.View.child_last hnd (m := m) hm hin hs
    have hpn : (nd.parent != dir) = false := by simp [hpd]
    have hnn : (!decide (nd.name = N[k])) = false := by rw [decide_eq_true h3]; rfl
    have hsl : N[k].length ≤ 1048576 := by rw [← h3]; have := (hshort nd h1).1; omega
    have hless : ∀ j, k = j + 1 → ∀ hj : j < N.length, PC Try.prog 24 [.str N[j], .str N[k]] (.bool true) := fun j e hj => by
      subst e
      obtain ⟨n', hn'⟩ := (hmem N[j]).1 (List.getElem_mem hj)
      obtain ⟨q1, _, q3⟩ := Gw.View.child_mem hn'
      have := nameLess_pc N[j] N[j + 1] (by rw [← q3]; have := (hshort n' q1).1; omega) hsl
      rw [hris j hlt] at this
      exact this
    have hg' : ∀ j, k = j + 1 → ∀ hj : j < N.length, (encS1 N)[j]? = some [.str N[j]] := fun j _ hj => encS1_get hj
    generalize N[k] = s at *
    conv => whnf
    refine ⟨_, ⟨by omega, hg⟩, ?_⟩
    conv => whnf
    refine AC.of_pc hch rfl ?_
    conv => whnf
    refine AC.of_pc htf rfl ?_
    conv => whnf
    repeat (first | refine ⟨fun h => absurd h (by decide), fun _ => ?_⟩
                  | refine ⟨fun _ => ?_, fun h => absurd h (by decide)⟩
                  | refine ⟨fun h => absurd (hpn.symm.trans h) (by decide), fun _ => ?_⟩
                  | refine ⟨fun h => absurd (hnn.symm.trans h) (by decide), fun _ => ?_⟩
                  | refine ⟨_, ⟨by omega, hg⟩, ?_⟩
                  | fail "end"
            (conv => whnf))
    -- MK
    cases k with
    | zero =>
      refine ⟨fun h => absurd h (by decide), fun _ => ?_⟩
      conv => whnf
      refine ⟨by kernel_rfl, ?_⟩
      conv => whnf
      repeat (first | refine ⟨fun _ => ?_, fun h => absurd h (by decide)⟩ | refine ⟨fun h => absurd h (by decide), fun _ => ?_⟩ | refine ⟨fun _ => ?_, fun h => absurd (show true = false from h) (by decide)⟩ | refine ⟨fun h => absurd (show false = true from h) (by decide), fun _ => ?_⟩
              (conv => whnf))
      refine AW.loop (fun i : Nat => [(.tmp 0, .v (.lst nil 8 (encN l) .none)), (.tmp 1, .v (.int .i64 dir)), (.tmp 5, .v (.bool true)), (.tmp 6, .v (.lst q 1 (encS1 N) .none)), (.tmp 7, .v (.int .i64 (0 : Nat))), (.tmp 10, .v (.ptr 20 0)), (.tmp 12, .v (.int .i64 i)), (.blk 20, .box 43 (cellsN nd))]) 21
        (fun i => i ≤ l.length) (fun i => l.length - i) (by decide) 0 (Nat.zero_le _) ⟨rfl, rfl, rfl, rfl, rfl, rfl, rfl, rfl, rfl, rfl, rfl, rfl, rfl, rfl, rfl, rfl, trivial⟩ ?_
      rintro i hil
      refine ev_sound tabOk mixed _ _ _ _ ?_
      conv => whnf
      rw [hel]
      refine ⟨fun h => ?_, fun h => ?_⟩
      · have h := of_decide_eq_true h
        have hlti : i < l.length := by omega
        have hgi := encN_get hlti
        have hmi : l[i] ∈ l := List.getElem_mem hlti
        have hlm := fun (hA : l[i].parent = dir) (hB : l[i].name = s) (hC : Gw.Stamp.check l[i].moved = true) => hlast l[i] hmi (by unfold Gw.View.inDir; rw [decide_eq_true hA, hC]; rfl) hB
        generalize l[i] = mm at *
        have hck := stampCheck_pc mm.moved
        have hle := less_pc nd.moved mm.moved
        conv => whnf
        refine ⟨_, ⟨by omega, hgi⟩, ?_⟩
        conv => whnf
        refine ⟨fun hA => ?_, fun hA => ?_⟩
        · have hA : mm.parent = dir := by simpa using hA
          conv => whnf
          refine ⟨_, ⟨by omega, hgi⟩, ?_⟩
          conv => whnf
          refine ⟨_, ⟨by omega, hg⟩, ?_⟩
          conv => whnf
          refine ⟨fun hB => ?_, fun hB => ?_⟩
          · have hB : mm.name = s := by simpa using hB
            conv => whnf
            refine ⟨_, ⟨by omega, hgi⟩, ?_⟩
            conv => whnf
            refine ⟨_, rfl, hck, ?_⟩
            cases hC : Gw.Stamp.check mm.moved with
            | true =>
              rw [hlm hA hB hC] at hle
              conv => whnf
              repeat (first | refine ⟨fun _ => ?_, fun h => absurd h (by decide)⟩ | refine ⟨fun h => absurd h (by decide), fun _ => ?_⟩ | refine ⟨fun _ => ?_, fun h => absurd (show true = false from h) (by decide)⟩ | refine ⟨fun h => absurd (show false = true from h) (by decide), fun _ => ?_⟩
                      (conv => whnf))
              refine ⟨_, ⟨by omega, hgi⟩, ?_⟩
              conv => whnf
              refine ⟨_, rfl, hle, ?_⟩
              conv => whnf
              refine ⟨by kernel_rfl, ?_⟩
              conv => whnf
              repeat (first | refine ⟨fun _ => ?_, fun h => absurd h (by decide)⟩ | refine ⟨fun h => absurd h (by decide), fun _ => ?_⟩ | refine ⟨fun _ => ?_, fun h => absurd (show true = false from h) (by decide)⟩ | refine ⟨fun h => absurd (show false = true from h) (by decide), fun _ => ?_⟩
                      (conv => whnf))
              refine ⟨i + 1, hlti, by show l.length - (i + 1) < l.length - i; omega, rfl, rfl, rfl, rfl, rfl, rfl, rfl, rfl, rfl, rfl, rfl, rfl, ?_, rfl, rfl, rfl, trivial⟩
              show C.v (V.int .i64 (IntKind.i64.wrap ((i : Int) + 1))) = _
              rw [w64 (by omega) (by omega)]; rfl
            | false =>
              conv => whnf
              repeat (first | refine ⟨fun _ => ?_, fun h => absurd h (by decide)⟩ | refine ⟨fun h => absurd h (by decide), fun _ => ?_⟩ | refine ⟨fun _ => ?_, fun h => absurd (show true = false from h) (by decide)⟩ | refine ⟨fun h => absurd (show false = true from h) (by decide), fun _ => ?_⟩
                      (conv => whnf))
              refine ⟨by kernel_rfl, ?_⟩
              conv => whnf
              repeat (first | refine ⟨fun _ => ?_, fun h => absurd h (by decide)⟩ | refine ⟨fun h => absurd h (by decide), fun _ => ?_⟩ | refine ⟨fun _ => ?_, fun h => absurd (show true = false from h) (by decide)⟩ | refine ⟨fun h => absurd (show false = true from h) (by decide), fun _ => ?_⟩
                      (conv => whnf))
              refine ⟨i + 1, hlti, by show l.length - (i + 1) < l.length - i; omega, rfl, rfl, rfl, rfl, rfl, rfl, rfl, rfl, rfl, rfl, rfl, rfl, ?_, rfl, rfl, rfl, trivial⟩
              show C.v (V.int .i64 (IntKind.i64.wrap ((i : Int) + 1))) = _
              rw [w64 (by omega) (by omega)]; rfl
          · conv => whnf
            refine ⟨by kernel_rfl, ?_⟩
            conv => whnf
            repeat (first | refine ⟨fun _ => ?_, fun h => absurd h (by decide)⟩ | refine ⟨fun h => absurd h (by decide), fun _ => ?_⟩ | refine ⟨fun _ => ?_, fun h => absurd (show true = false from h) (by decide)⟩ | refine ⟨fun h => absurd (show false = true from h) (by decide), fun _ => ?_⟩
                    (conv => whnf))
            refine ⟨i + 1, hlti, by show l.length - (i + 1) < l.length - i; omega, rfl, rfl, rfl, rfl, rfl, rfl, rfl, rfl, rfl, rfl, rfl, rfl, ?_, rfl, rfl, rfl, trivial⟩
            show C.v (V.int .i64 (IntKind.i64.wrap ((i : Int) + 1))) = _
            rw [w64 (by omega) (by omega)]; rfl
        · conv => whnf
          refine ⟨by kernel_rfl, ?_⟩
          conv => whnf
          repeat (first | refine ⟨fun _ => ?_, fun h => absurd h (by decide)⟩ | refine ⟨fun h => absurd h (by decide), fun _ => ?_⟩ | refine ⟨fun _ => ?_, fun h => absurd (show true = false from h) (by decide)⟩ | refine ⟨fun h => absurd (show false = true from h) (by decide), fun _ => ?_⟩
                  (conv => whnf))
          refine ⟨i + 1, hlti, by show l.length - (i + 1) < l.length - i; omega, rfl, rfl, rfl, rfl, rfl, rfl, rfl, rfl, rfl, rfl, rfl, rfl, ?_, rfl, rfl, rfl, trivial⟩
          show C.v (V.int .i64 (IntKind.i64.wrap ((i : Int) + 1))) = _
          rw [w64 (by omega) (by omega)]; rfl
      · conv => whnf
        refine ⟨0 + 1, by omega, by show N.length - (0 + 1) < N.length - 0; omega, rfl, rfl, rfl, rfl, rfl, rfl, rfl, rfl, ?_, rfl, trivial⟩
        show C.v (V.int .i64 (IntKind.i64.wrap (((0 : Nat) : Int) + 1))) = _
        rw [w64 (by omega) (by omega)]; rfl
    | succ j =>
      have hj : j < N.length := by omega
      have hgj := hg' j rfl hj
      have hlj := hless j rfl hj
      have hwj : IntKind.i64.wrap (((j + 1 : Nat) : Int) - 1) = (j : Int) := by rw [w64 (by omega) (by omega)]; omega
      generalize N[j] = s0 at *
      refine ⟨fun _ => ?_, fun h => absurd h (by simp; first | done | omega | fail "x")⟩
      conv => whnf
      rw [hwj]
      refine ⟨_, ⟨by omega, hgj⟩, ?_⟩
      conv => whnf
      refine ⟨_, ⟨by omega, hg⟩, ?_⟩
      conv => whnf
      refine ⟨_, rfl, hlj, ?_⟩
      conv => whnf
      refine ⟨by kernel_rfl, ?_⟩
      conv => whnf
      repeat (first | refine ⟨fun _ => ?_, fun h => absurd h (by decide)⟩ | refine ⟨fun h => absurd h (by decide), fun _ => ?_⟩ | refine ⟨fun _ => ?_, fun h => absurd (show true = false from h) (by decide)⟩ | refine ⟨fun h => absurd (show false = true from h) (by decide), fun _ => ?_⟩
              (conv => whnf))
      refine AW.loop (fun i : Nat => [(.tmp 0, .v (.lst nil 8 (encN l) .none)), (.tmp 1, .v (.int .i64 dir)), (.tmp 5, .v (.bool true)), (.tmp 6, .v (.lst q 1 (encS1 N) .none)), (.tmp 7, .v (.int .i64 ((j + 1) : Nat))), (.tmp 10, .v (.ptr 20 0)), (.tmp 12, .v (.int .i64 i)), (.blk 20, .box 43 (cellsN nd))]) 21
        (fun i => i ≤ l.length) (fun i => l.length - i) (by decide) 0 (Nat.zero_le _) ⟨rfl, rfl, rfl, rfl, rfl, rfl, rfl, rfl, rfl, rfl, rfl, rfl, rfl, rfl, rfl, rfl, trivial⟩ ?_
      rintro i hil
      refine ev_sound tabOk mixed _ _ _ _ ?_
      conv => whnf
      rw [hel]
      refine ⟨fun h => ?_, fun h => ?_⟩
      · have h := of_decide_eq_true h
        have hlti : i < l.length := by omega
        have hgi := encN_get hlti
        have hmi : l[i] ∈ l := List.getElem_mem hlti
        have hlm := fun (hA : l[i].parent = dir) (hB : l[i].name = s) (hC : Gw.Stamp.check l[i].moved = true) => hlast l[i] hmi (by unfold Gw.View.inDir; rw [decide_eq_true hA, hC]; rfl) hB
        generalize l[i] = mm at *
        have hck := stampCheck_pc mm.moved
        have hle := less_pc nd.moved mm.moved
        conv => whnf
        refine ⟨_, ⟨by omega, hgi⟩, ?_⟩
        conv => whnf
        refine ⟨fun hA => ?_, fun hA => ?_⟩
        · have hA : mm.parent = dir := by simpa using hA
          conv => whnf
          refine ⟨_, ⟨by omega, hgi⟩, ?_⟩
          conv => whnf
          refine ⟨_, ⟨by omega, hg⟩, ?_⟩
          conv => whnf
          refine ⟨fun hB => ?_, fun hB => ?_⟩
          · have hB : mm.name = s := by simpa using hB
            conv => whnf
            refine ⟨_, ⟨by omega, hgi⟩, ?_⟩
            conv => whnf
            refine ⟨_, rfl, hck, ?_⟩
            cases hC : Gw.Stamp.check mm.moved with
            | true =>
              rw [hlm hA hB hC] at hle
              conv => whnf
              repeat (first | refine ⟨fun _ => ?_, fun h => absurd h (by decide)⟩ | refine ⟨fun h => absurd h (by decide), fun _ => ?_⟩ | refine ⟨fun _ => ?_, fun h => absurd (show true = false from h) (by decide)⟩ | refine ⟨fun h => absurd (show false = true from h) (by decide), fun _ => ?_⟩
                      (conv => whnf))
              refine ⟨_, ⟨by omega, hgi⟩, ?_⟩
              conv => whnf
              refine ⟨_, rfl, hle, ?_⟩
              conv => whnf
              refine ⟨by kernel_rfl, ?_⟩
              conv => whnf
              repeat (first | refine ⟨fun _ => ?_, fun h => absurd h (by decide)⟩ | refine ⟨fun h => absurd h (by decide), fun _ => ?_⟩ | refine ⟨fun _ => ?_, fun h => absurd (show true = false from h) (by decide)⟩ | refine ⟨fun h => absurd (show false = true from h) (by decide), fun _ => ?_⟩
                      (conv => whnf))
              refine ⟨i + 1, hlti, by show l.length - (i + 1) < l.length - i; omega, rfl, rfl, rfl, rfl, rfl, rfl, rfl, rfl, rfl, rfl, rfl, rfl, ?_, rfl, rfl, rfl, trivial⟩
              show C.v (V.int .i64 (IntKind.i64.wrap ((i : Int) + 1))) = _
              rw [w64 (by omega) (by omega)]; rfl
            | false =>
              conv => whnf
              repeat (first | refine ⟨fun _ => ?_, fun h => absurd h (by decide)⟩ | refine ⟨fun h => absurd h (by decide), fun _ => ?_⟩ | refine ⟨fun _ => ?_, fun h => absurd (show true = false from h) (by decide)⟩ | refine ⟨fun h => absurd (show false = true from h) (by decide), fun _ => ?_⟩
                      (conv => whnf))
              refine ⟨by kernel_rfl, ?_⟩
              conv => whnf
              repeat (first | refine ⟨fun _ => ?_, fun h => absurd h (by decide)⟩ | refine ⟨fun h => absurd h (by decide), fun _ => ?_⟩ | refine ⟨fun _ => ?_, fun h => absurd (show true = false from h) (by decide)⟩ | refine ⟨fun h => absurd (show false = true from h) (by decide), fun _ => ?_⟩
                      (conv => whnf))
              refine ⟨i + 1, hlti, by show l.length - (i + 1) < l.length - i; omega, rfl, rfl, rfl, rfl, rfl, rfl, rfl, rfl, rfl, rfl, rfl, rfl, ?_, rfl, rfl, rfl, trivial⟩
              show C.v (V.int .i64 (IntKind.i64.wrap ((i : Int) + 1))) = _
              rw [w64 (by omega) (by omega)]; rfl
          · conv => whnf
            refine ⟨by kernel_rfl, ?_⟩
            conv => whnf
            repeat (first | refine ⟨fun _ => ?_, fun h => absurd h (by decide)⟩ | refine ⟨fun h => absurd h (by decide), fun _ => ?_⟩ | refine ⟨fun _ => ?_, fun h => absurd (show true = false from h) (by decide)⟩ | refine ⟨fun h => absurd (show false = true from h) (by decide), fun _ => ?_⟩
                    (conv => whnf))
            refine ⟨i + 1, hlti, by show l.length - (i + 1) < l.length - i; omega, rfl, rfl, rfl, rfl, rfl, rfl, rfl, rfl, rfl, rfl, rfl, rfl, ?_, rfl, rfl, rfl, trivial⟩
            show C.v (V.int .i64 (IntKind.i64.wrap ((i : Int) + 1))) = _
            rw [w64 (by omega) (by omega)]; rfl
        · conv => whnf
          refine ⟨by kernel_rfl, ?_⟩
          conv => whnf
          repeat (first | refine ⟨fun _ => ?_, fun h => absurd h (by decide)⟩ | refine ⟨fun h => absurd h (by decide), fun _ => ?_⟩ | refine ⟨fun _ => ?_, fun h => absurd (show true = false from h) (by decide)⟩ | refine ⟨fun h => absurd (show false = true from h) (by decide), fun _ => ?_⟩
                  (conv => whnf))
          refine ⟨i + 1, hlti, by show l.length - (i + 1) < l.length - i; omega, rfl, rfl, rfl, rfl, rfl, rfl, rfl, rfl, rfl, rfl, rfl, rfl, ?_, rfl, rfl, rfl, trivial⟩
          show C.v (V.int .i64 (IntKind.i64.wrap ((i : Int) + 1))) = _
          rw [w64 (by omega) (by omega)]; rfl
      · conv => whnf
        refine ⟨(j + 1) + 1, by omega, by show N.length - ((j + 1) + 1) < N.length - (j + 1); omega, rfl, rfl, rfl, rfl, rfl, rfl, rfl, rfl, ?_, rfl, trivial⟩
        show C.v (V.int .i64 (IntKind.i64.wrap ((((j + 1) : Nat) : Int) + 1))) = _
        rw [w64 (by omega) (by omega)]; rfl
  · have h := of_decide_eq_false h
    conv => whnf
    refine AW.loop (fun k : Nat => [(.tmp 0, .v (.lst nil 8 (encN l) .none)), (.tmp 1, .v (.int .i64 dir)), (.tmp 5, .v (.bool true)), (.tmp 6, .v (.lst q 1 (encS1 N) .none)), (.tmp 13, .v (.int .i64 k))]) 0
      (fun k => k ≤ l.length) (fun k => l.length - k) (by decide) 0 (Nat.zero_le _) ⟨rfl, rfl, rfl, rfl, rfl, rfl, rfl, rfl, rfl, rfl, trivial⟩ ?_
    rintro k hk
    refine ev_sound tabOk mixed _ _ _ _ ?_
    conv => whnf
    rw [hel]
    refine ⟨fun h => ?_, fun h => ?_⟩
    · have h := of_decide_eq_true h
      have hlt : k < l.length := by omega
      have hgk := encN_get hlt
      have hmm : l[k] ∈ l := List.getElem_mem hlt
      generalize l[k] = mm at *
      have hck := stampCheck_pc mm.moved
      conv => whnf
      refine ⟨_, ⟨by omega, hgk⟩, ?_⟩
      conv => whnf
      refine ⟨fun hA => ?_, fun hA => ?_⟩
      · conv => whnf
        refine AW.loop (X := Nat × V) (fun x => [(.tmp 0, .v (.lst nil 8 (encN l) .none)), (.tmp 1, .v (.int .i64 dir)), (.tmp 5, .v (.bool true)), (.tmp 6, .v (.lst q 1 (encS1 N) .none)), (.tmp 13, .v (.int .i64 k)), (.tmp 14, .v x.2), (.tmp 15, .v (.int .i64 x.1))]) 0
          (fun x => x.1 ≤ N.length ∧ (x.2 = .tt ∨ ∃ b, x.2 = .bool b ∧ (b = false → mm.parent = dir ∧ Gw.Stamp.check mm.moved = true ∧ ∀ j (hj : j < N.length), j < x.1 → N[j] ≠ mm.name))) (fun x => N.length - x.1) (by decide) (0, _) ⟨Nat.zero_le _, .inl rfl⟩ ⟨rfl, rfl, rfl, rfl, rfl, rfl, rfl, rfl, rfl, rfl, rfl, rfl, rfl, rfl, trivial⟩ ?_
        rintro ⟨i, vb⟩ ⟨g1, g2⟩
        simp only at g1 g2
        dsimp only
        refine ev_sound tabOk mixed _ _ _ _ ?_
        have hnext : IntKind.i64.wrap ((i : Int) + 1) = ((i + 1 : Nat) : Int) := by rw [w64 (by omega) (by omega)]; rfl
        have hnextk : IntKind.i64.wrap ((k : Int) + 1) = ((k + 1 : Nat) : Int) := by rw [w64 (by omega) (by omega)]; rfl
        rcases g2 with rfl | ⟨b, rfl, g2⟩
        · conv => whnf
          rw [hNl]
          refine ⟨fun h => ?_, fun h => ?_⟩
          · have h := of_decide_eq_true h
            conv => whnf
            repeat (first | refine ⟨fun _ => ?_, fun h => absurd h (by decide)⟩ | refine ⟨fun h => absurd h (by decide), fun _ => ?_⟩ | refine ⟨fun _ => ?_, fun h => absurd (show true = false from h) (by decide)⟩ | refine ⟨fun h => absurd (show false = true from h) (by decide), fun _ => ?_⟩
                    (conv => whnf))
            refine ⟨by kernel_rfl, ?_⟩
            conv => whnf
            refine ⟨(i + 1, _), ⟨by show i + 1 ≤ N.length; omega, .inl rfl⟩, by show N.length - (i + 1) < N.length - i; omega, rfl, rfl, rfl, rfl, rfl, rfl, rfl, rfl, rfl, rfl, rfl, rfl, ?_, rfl, trivial⟩
            show C.v (V.int .i64 (IntKind.i64.wrap ((i : Int) + 1))) = _
            rw [hnext]
          · conv => whnf
            repeat (first | refine ⟨fun _ => ?_, fun h => absurd h (by decide)⟩ | refine ⟨fun h => absurd h (by decide), fun _ => ?_⟩ | refine ⟨fun _ => ?_, fun h => absurd (show true = false from h) (by decide)⟩ | refine ⟨fun h => absurd (show false = true from h) (by decide), fun _ => ?_⟩
                    (conv => whnf))
            refine ⟨k + 1, hlt, by show l.length - (k + 1) < l.length - k; omega, rfl, rfl, rfl, rfl, rfl, rfl, rfl, rfl, ?_, rfl, trivial⟩
            show C.v (V.int .i64 (IntKind.i64.wrap ((k : Int) + 1))) = _
            rw [hnextk]
        · cases b with
          | true =>
            conv => whnf
            rw [hNl]
            refine ⟨fun h => ?_, fun h => ?_⟩
            · have h := of_decide_eq_true h
              conv => whnf
              repeat (first | refine ⟨fun _ => ?_, fun h => absurd h (by decide)⟩ | refine ⟨fun h => absurd h (by decide), fun _ => ?_⟩ | refine ⟨fun _ => ?_, fun h => absurd (show true = false from h) (by decide)⟩ | refine ⟨fun h => absurd (show false = true from h) (by decide), fun _ => ?_⟩
                      (conv => whnf))
              refine ⟨by kernel_rfl, ?_⟩
              conv => whnf
              refine ⟨(i + 1, _), ⟨by show i + 1 ≤ N.length; omega, .inl rfl⟩, by show N.length - (i + 1) < N.length - i; omega, rfl, rfl, rfl, rfl, rfl, rfl, rfl, rfl, rfl, rfl, rfl, rfl, ?_, rfl, trivial⟩
              show C.v (V.int .i64 (IntKind.i64.wrap ((i : Int) + 1))) = _
              rw [hnext]
            · conv => whnf
              repeat (first | refine ⟨fun _ => ?_, fun h => absurd h (by decide)⟩ | refine ⟨fun h => absurd h (by decide), fun _ => ?_⟩ | refine ⟨fun _ => ?_, fun h => absurd (show true = false from h) (by decide)⟩ | refine ⟨fun h => absurd (show false = true from h) (by decide), fun _ => ?_⟩
                      (conv => whnf))
              refine ⟨k + 1, hlt, by show l.length - (k + 1) < l.length - k; omega, rfl, rfl, rfl, rfl, rfl, rfl, rfl, rfl, ?_, rfl, trivial⟩
              show C.v (V.int .i64 (IntKind.i64.wrap ((k : Int) + 1))) = _
              rw [hnextk]
          | false =>
            obtain ⟨g3, g4, g5⟩ := g2 rfl
            conv => whnf
            rw [hNl]
            refine ⟨fun h => ?_, fun h => ?_⟩
            · have h := of_decide_eq_true h
              have hlti : i < N.length := by omega
              have hgi := encS1_get hlti
              conv => whnf
              repeat (first | refine ⟨fun _ => ?_, fun h => absurd h (by decide)⟩ | refine ⟨fun h => absurd h (by decide), fun _ => ?_⟩ | refine ⟨fun _ => ?_, fun h => absurd (show true = false from h) (by decide)⟩ | refine ⟨fun h => absurd (show false = true from h) (by decide), fun _ => ?_⟩
                      (conv => whnf))
              refine ⟨_, ⟨by omega, hgi⟩, ?_⟩
              conv => whnf
              refine ⟨_, ⟨by omega, hgk⟩, ?_⟩
              conv => whnf
              refine ⟨by kernel_rfl, ?_⟩
              conv => whnf
              refine ⟨(i + 1, .bool (decide (N[i] = mm.name))), ⟨hlti, .inr ⟨_, rfl, fun h => ⟨g3, g4, fun j hj hji => ?_⟩⟩⟩, by show N.length - (i + 1) < N.length - i; omega, rfl, rfl, rfl, rfl, rfl, rfl, rfl, rfl, rfl, rfl, rfl, rfl, ?_, rfl, trivial⟩
              · have h := of_decide_eq_false h
                by_cases e : j = i
                · subst e; exact h
                · have hji : j < i + 1 := hji
                  exact g5 j hj (by omega)
              · show C.v (V.int .i64 (IntKind.i64.wrap ((i : Int) + 1))) = _
                rw [hnext]
            · have h := of_decide_eq_false h
              exfalso
              obtain ⟨n, hn⟩ := Gw.View.child_some hc hmm (dir := dir) (by unfold Gw.View.inDir; rw [decide_eq_true g3, g4]; rfl)
              obtain ⟨j, hj, e⟩ := List.getElem_of_mem ((hmem mm.name).2 ⟨n, hn⟩)
              exact g5 j hj (by omega) e
      · have hA : mm.parent = dir := by simpa using hA
        conv => whnf
        refine ⟨_, ⟨by omega, hgk⟩, ?_⟩
        conv => whnf
        refine AC.of_pc hck rfl ?_
        cases hC : Gw.Stamp.check mm.moved with
        | true =>
          conv => whnf
          refine AW.loop (X := Nat × V) (fun x => [(.tmp 0, .v (.lst nil 8 (encN l) .none)), (.tmp 1, .v (.int .i64 dir)), (.tmp 5, .v (.bool true)), (.tmp 6, .v (.lst q 1 (encS1 N) .none)), (.tmp 13, .v (.int .i64 k)), (.tmp 14, .v x.2), (.tmp 15, .v (.int .i64 x.1))]) 0
            (fun x => x.1 ≤ N.length ∧ (x.2 = .tt ∨ ∃ b, x.2 = .bool b ∧ (b = false → mm.parent = dir ∧ Gw.Stamp.check mm.moved = true ∧ ∀ j (hj : j < N.length), j < x.1 → N[j] ≠ mm.name))) (fun x => N.length - x.1) (by decide) (0, _) ⟨Nat.zero_le _, .inr ⟨_, rfl, fun _ => ⟨hA, hC, fun j _ hj => absurd hj (Nat.not_lt_zero j)⟩⟩⟩ ⟨rfl, rfl, rfl, rfl, rfl, rfl, rfl, rfl, rfl, rfl, rfl, rfl, rfl, rfl, trivial⟩ ?_
          rintro ⟨i, vb⟩ ⟨g1, g2⟩
          simp only at g1 g2
          dsimp only
          refine ev_sound tabOk mixed _ _ _ _ ?_
          have hnext : IntKind.i64.wrap ((i : Int) + 1) = ((i + 1 : Nat) : Int) := by rw [w64 (by omega) (by omega)]; rfl
          have hnextk : IntKind.i64.wrap ((k : Int) + 1) = ((k + 1 : Nat) : Int) := by rw [w64 (by omega) (by omega)]; rfl
          rcases g2 with rfl | ⟨b, rfl, g2⟩
          · conv => whnf
            rw [hNl]
            refine ⟨fun h => ?_, fun h => ?_⟩
            · have h := of_decide_eq_true h
              conv => whnf
              repeat (first | refine ⟨fun _ => ?_, fun h => absurd h (by decide)⟩ | refine ⟨fun h => absurd h (by decide), fun _ => ?_⟩ | refine ⟨fun _ => ?_, fun h => absurd (show true = false from h) (by decide)⟩ | refine ⟨fun h => absurd (show false = true from h) (by decide), fun _ => ?_⟩
                      (conv => whnf))
              refine ⟨by kernel_rfl, ?_⟩
              conv => whnf
              refine ⟨(i + 1, _), ⟨by show i + 1 ≤ N.length; omega, .inl rfl⟩, by show N.length - (i + 1) < N.length - i; omega, rfl, rfl, rfl, rfl, rfl, rfl, rfl, rfl, rfl, rfl, rfl, rfl, ?_, rfl, trivial⟩
              show C.v (V.int .i64 (IntKind.i64.wrap ((i : Int) + 1))) = _
              rw [hnext]
            · conv => whnf
              repeat (first | refine ⟨fun _ => ?_, fun h => absurd h (by decide)⟩ | refine ⟨fun h => absurd h (by decide), fun _ => ?_⟩ | refine ⟨fun _ => ?_, fun h => absurd (show true = false from h) (by decide)⟩ | refine ⟨fun h => absurd (show false = true from h) (by decide), fun _ => ?_⟩
                      (conv => whnf))
              refine ⟨k + 1, hlt, by show l.length - (k + 1) < l.length - k; omega, rfl, rfl, rfl, rfl, rfl, rfl, rfl, rfl, ?_, rfl, trivial⟩
              show C.v (V.int .i64 (IntKind.i64.wrap ((k : Int) + 1))) = _
              rw [hnextk]
          · cases b with
            | true =>
              conv => whnf
              rw [hNl]
              refine ⟨fun h => ?_, fun h => ?_⟩
              · have h := of_decide_eq_true h
                conv => whnf
                repeat (first | refine ⟨fun _ => ?_, fun h => absurd h (by decide)⟩ | refine ⟨fun h => absurd h (by decide), fun _ => ?_⟩ | refine ⟨fun _ => ?_, fun h => absurd (show true = false from h) (by decide)⟩ | refine ⟨fun h => absurd (show false = true from h) (by decide), fun _ => ?_⟩
                        (conv => whnf))
                refine ⟨by kernel_rfl, ?_⟩
                conv => whnf
                refine ⟨(i + 1, _), ⟨by show i + 1 ≤ N.length; omega, .inl rfl⟩, by show N.length - (i + 1) < N.length - i; omega, rfl, rfl, rfl, rfl, rfl, rfl, rfl, rfl, rfl, rfl, rfl, rfl, ?_, rfl, trivial⟩
                show C.v (V.int .i64 (IntKind.i64.wrap ((i : Int) + 1))) = _
                rw [hnext]
              · conv => whnf
                repeat (first | refine ⟨fun _ => ?_, fun h => absurd h (by decide)⟩ | refine ⟨fun h => absurd h (by decide), fun _ => ?_⟩ | refine ⟨fun _ => ?_, fun h => absurd (show true = false from h) (by decide)⟩ | refine ⟨fun h => absurd (show false = true from h) (by decide), fun _ => ?_⟩
                        (conv => whnf))
                refine ⟨k + 1, hlt, by show l.length - (k + 1) < l.length - k; omega, rfl, rfl, rfl, rfl, rfl, rfl, rfl, rfl, ?_, rfl, trivial⟩
                show C.v (V.int .i64 (IntKind.i64.wrap ((k : Int) + 1))) = _
                rw [hnextk]
            | false =>
              obtain ⟨g3, g4, g5⟩ := g2 rfl
              conv => whnf
              rw [hNl]
              refine ⟨fun h => ?_, fun h => ?_⟩
              · have h := of_decide_eq_true h
                have hlti : i < N.length := by omega
                have hgi := encS1_get hlti
                conv => whnf
                repeat (first | refine ⟨fun _ => ?_, fun h => absurd h (by decide)⟩ | refine ⟨fun h => absurd h (by decide), fun _ => ?_⟩ | refine ⟨fun _ => ?_, fun h => absurd (show true = false from h) (by decide)⟩ | refine ⟨fun h => absurd (show false = true from h) (by decide), fun _ => ?_⟩
                        (conv => whnf))
                refine ⟨_, ⟨by omega, hgi⟩, ?_⟩
                conv => whnf
                refine ⟨_, ⟨by omega, hgk⟩, ?_⟩
                conv => whnf
                refine ⟨by kernel_rfl, ?_⟩
                conv => whnf
                refine ⟨(i + 1, .bool (decide (N[i] = mm.name))), ⟨hlti, .inr ⟨_, rfl, fun h => ⟨g3, g4, fun j hj hji => ?_⟩⟩⟩, by show N.length - (i + 1) < N.length - i; omega, rfl, rfl, rfl, rfl, rfl, rfl, rfl, rfl, rfl, rfl, rfl, rfl, ?_, rfl, trivial⟩
                · have h := of_decide_eq_false h
                  by_cases e : j = i
                  · subst e; exact h
                  · have hji : j < i + 1 := hji
                    exact g5 j hj (by omega)
                · show C.v (V.int .i64 (IntKind.i64.wrap ((i : Int) + 1))) = _
                  rw [hnext]
              · have h := of_decide_eq_false h
                exfalso
                obtain ⟨n, hn⟩ := Gw.View.child_some hc hmm (dir := dir) (by unfold Gw.View.inDir; rw [decide_eq_true g3, g4]; rfl)
                obtain ⟨j, hj, e⟩ := List.getElem_of_mem ((hmem mm.name).2 ⟨n, hn⟩)
                exact g5 j hj (by omega) e
        | false =>
          conv => whnf
          refine AW.loop (X := Nat × V) (fun x => [(.tmp 0, .v (.lst nil 8 (encN l) .none)), (.tmp 1, .v (.int .i64 dir)), (.tmp 5, .v (.bool true)), (.tmp 6, .v (.lst q 1 (encS1 N) .none)), (.tmp 13, .v (.int .i64 k)), (.tmp 14, .v x.2), (.tmp 15, .v (.int .i64 x.1))]) 0
            (fun x => x.1 ≤ N.length ∧ (x.2 = .tt ∨ ∃ b, x.2 = .bool b ∧ (b = false → mm.parent = dir ∧ Gw.Stamp.check mm.moved = true ∧ ∀ j (hj : j < N.length), j < x.1 → N[j] ≠ mm.name))) (fun x => N.length - x.1) (by decide) (0, _) ⟨Nat.zero_le _, .inr ⟨_, rfl, fun h => by cases h⟩⟩ ⟨rfl, rfl, rfl, rfl, rfl, rfl, rfl, rfl, rfl, rfl, rfl, rfl, rfl, rfl, trivial⟩ ?_
          rintro ⟨i, vb⟩ ⟨g1, g2⟩
          simp only at g1 g2
          dsimp only
          refine ev_sound tabOk mixed _ _ _ _ ?_
          have hnext : IntKind.i64.wrap ((i : Int) + 1) = ((i + 1 : Nat) : Int) := by rw [w64 (by omega) (by omega)]; rfl
          have hnextk : IntKind.i64.wrap ((k : Int) + 1) = ((k + 1 : Nat) : Int) := by rw [w64 (by omega) (by omega)]; rfl
          rcases g2 with rfl | ⟨b, rfl, g2⟩
          · conv => whnf
            rw [hNl]
            refine ⟨fun h => ?_, fun h => ?_⟩
            · have h := of_decide_eq_true h
              conv => whnf
              repeat (first | refine ⟨fun _ => ?_, fun h => absurd h (by decide)⟩ | refine ⟨fun h => absurd h (by decide), fun _ => ?_⟩ | refine ⟨fun _ => ?_, fun h => absurd (show true = false from h) (by decide)⟩ | refine ⟨fun h => absurd (show false = true from h) (by decide), fun _ => ?_⟩
                      (conv => whnf))
              refine ⟨by kernel_rfl, ?_⟩
              conv => whnf
              refine ⟨(i + 1, _), ⟨by show i + 1 ≤ N.length; omega, .inl rfl⟩, by show N.length - (i + 1) < N.length - i; omega, rfl, rfl, rfl, rfl, rfl, rfl, rfl, rfl, rfl, rfl, rfl, rfl, ?_, rfl, trivial⟩
              show C.v (V.int .i64 (IntKind.i64.wrap ((i : Int) + 1))) = _
              rw [hnext]
            · conv => whnf
              repeat (first | refine ⟨fun _ => ?_, fun h => absurd h (by decide)⟩ | refine ⟨fun h => absurd h (by decide), fun _ => ?_⟩ | refine ⟨fun _ => ?_, fun h => absurd (show true = false from h) (by decide)⟩ | refine ⟨fun h => absurd (show false = true from h) (by decide), fun _ => ?_⟩
                      (conv => whnf))
              refine ⟨k + 1, hlt, by show l.length - (k + 1) < l.length - k; omega, rfl, rfl, rfl, rfl, rfl, rfl, rfl, rfl, ?_, rfl, trivial⟩
              show C.v (V.int .i64 (IntKind.i64.wrap ((k : Int) + 1))) = _
              rw [hnextk]
          · cases b with
            | true =>
              conv => whnf
              rw [hNl]
              refine ⟨fun h => ?_, fun h => ?_⟩
              · have h := of_decide_eq_true h
                conv => whnf
                repeat (first | refine ⟨fun _ => ?_, fun h => absurd h (by decide)⟩ | refine ⟨fun h => absurd h (by decide), fun _ => ?_⟩ | refine ⟨fun _ => ?_, fun h => absurd (show true = false from h) (by decide)⟩ | refine ⟨fun h => absurd (show false = true from h) (by decide), fun _ => ?_⟩
                        (conv => whnf))
                refine ⟨by kernel_rfl, ?_⟩
                conv => whnf
                refine ⟨(i + 1, _), ⟨by show i + 1 ≤ N.length; omega, .inl rfl⟩, by show N.length - (i + 1) < N.length - i; omega, rfl, rfl, rfl, rfl, rfl, rfl, rfl, rfl, rfl, rfl, rfl, rfl, ?_, rfl, trivial⟩
                show C.v (V.int .i64 (IntKind.i64.wrap ((i : Int) + 1))) = _
                rw [hnext]
              · conv => whnf
                repeat (first | refine ⟨fun _ => ?_, fun h => absurd h (by decide)⟩ | refine ⟨fun h => absurd h (by decide), fun _ => ?_⟩ | refine ⟨fun _ => ?_, fun h => absurd (show true = false from h) (by decide)⟩ | refine ⟨fun h => absurd (show false = true from h) (by decide), fun _ => ?_⟩
                        (conv => whnf))
                refine ⟨k + 1, hlt, by show l.length - (k + 1) < l.length - k; omega, rfl, rfl, rfl, rfl, rfl, rfl, rfl, rfl, ?_, rfl, trivial⟩
                show C.v (V.int .i64 (IntKind.i64.wrap ((k : Int) + 1))) = _
                rw [hnextk]
            | false =>
              obtain ⟨g3, g4, g5⟩ := g2 rfl
              conv => whnf
              rw [hNl]
              refine ⟨fun h => ?_, fun h => ?_⟩
              · have h := of_decide_eq_true h
                have hlti : i < N.length := by omega
                have hgi := encS1_get hlti
                conv => whnf
                repeat (first | refine ⟨fun _ => ?_, fun h => absurd h (by decide)⟩ | refine ⟨fun h => absurd h (by decide), fun _ => ?_⟩ | refine ⟨fun _ => ?_, fun h => absurd (show true = false from h) (by decide)⟩ | refine ⟨fun h => absurd (show false = true from h) (by decide), fun _ => ?_⟩
                        (conv => whnf))
                refine ⟨_, ⟨by omega, hgi⟩, ?_⟩
                conv => whnf
                refine ⟨_, ⟨by omega, hgk⟩, ?_⟩
                conv => whnf
                refine ⟨by kernel_rfl, ?_⟩
                conv => whnf
                refine ⟨(i + 1, .bool (decide (N[i] = mm.name))), ⟨hlti, .inr ⟨_, rfl, fun h => ⟨g3, g4, fun j hj hji => ?_⟩⟩⟩, by show N.length - (i + 1) < N.length - i; omega, rfl, rfl, rfl, rfl, rfl, rfl, rfl, rfl, rfl, rfl, rfl, rfl, ?_, rfl, trivial⟩
                · have h := of_decide_eq_false h
                  by_cases e : j = i
                  · subst e; exact h
                  · have hji : j < i + 1 := hji
                    exact g5 j hj (by omega)
                · show C.v (V.int .i64 (IntKind.i64.wrap ((i : Int) + 1))) = _
                  rw [hnext]
              · have h := of_decide_eq_false h
                exfalso
                obtain ⟨n, hn⟩ := Gw.View.child_some hc hmm (dir := dir) (by unfold Gw.View.inDir; rw [decide_eq_true g3, g4]; rfl)
                obtain ⟨j, hj, e⟩ := List.getElem_of_mem ((hmem mm.name).2 ⟨n, hn⟩)
                exact g5 j hj (by omega) e
    · conv => whnf
end Go.Proofs.Ytkflmicpifohhaa
