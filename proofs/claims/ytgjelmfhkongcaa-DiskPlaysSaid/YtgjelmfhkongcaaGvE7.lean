/- The disk: Restart, walked. -/
import Derived.Test.YtgjelmfhkongcaaGvE6
namespace Go.Proofs.Ytgjelmfhkongcaa.D
set_option linter.unusedVariables false
set_option linter.unusedSimpArgs false
open Go Go.RowKit Go.Proofs.YtgjelmfhkongcaaW.PrintWords Go.Eng Go.Proofs.Ytgjelmfhkongcaa
theorem owns_form3 {w : World} {e : TypeId} {sz n : Nat} {v : Value} {xs : List Value} (ho : w.ownsRow 0 e sz v n xs) : ∃ X c, v = .slice X n c ∧ n ≤ c ∧ (X = none → n = 0 ∧ c = 0) ∧ ∀ a, X = some a → a = ⟨a.block, 0, none⟩ := by
  rcases ho.2 with ⟨rfl, rfl⟩ | ⟨g, cap, cur, rfl, _, _, h, _⟩
  · exact ⟨none, 0, rfl, Nat.le_refl _, fun _ => ⟨rfl, rfl⟩, fun a h => by cases h⟩
  · exact ⟨some ⟨g, 0, none⟩, cap, rfl, h, fun h => (by cases h), fun a h => (by cases h; rfl)⟩
theorem flat_at (A : Nat → Nat) : ∀ (l : List Chg) (k : Nat) (c : Chg), l[k]? = some c → ∀ (j : Nat) (u : Value), (chg A c)[j]? = some u → (l.flatMap (chg A))[k * 3 + j]? = some u
  | [], k, c, h, _, _, _ => by simp at h
  | c0 :: l, 0, c, h, j, u, hu => by
    simp at h
    subst h
    have hj : j < 3 := (List.getElem?_eq_some_iff.1 hu).1
    rw [List.flatMap_cons, List.getElem?_append_left (by show 0 * 3 + j < 3; omega)]
    simpa using hu
  | c0 :: l, k + 1, c, h, j, u, hu => by
    have ih := flat_at A l k c (by simpa using h) j u hu
    rw [List.flatMap_cons, List.getElem?_append_right (by show 3 ≤ (k + 1) * 3 + j; omega)]
    have e : (k + 1) * 3 + j - (chg A c0).length = k * 3 + j := by show (k + 1) * 3 + j - 3 = _; omega
    rw [e]
    exact ih
theorem fil_all {w : World} {a : Nat} {v0 v1 : Value} {T : TypeId} (h : w.heap[a]? = some (.cells #[v0, v1] T (0, 0))) :
    (w.cell? ⟨a, 0, none⟩ = some v0 ∧ w.cell? ⟨a, 1, none⟩ = some v1) ∧ w.frozen? ⟨a, 0, none⟩ = false ∧ w.frozen? ⟨a, 1, none⟩ = false :=
  ⟨⟨by rw [blk_cell h 0]; rfl, by rw [blk_cell h 1]; rfl⟩, blk_frozen h 0, blk_frozen h 1⟩
theorem wrap_is {z : Int} {n : Nat} (h : z = n) (hn : n < 9223372036854775808) : IntKind.i64.wrap z = (n : Int) := by
  subst h
  rw [show IntKind.i64.wrap (n : Int) = wrap64 (n : Int) from (wrapK_eq .i64 _).symm]
  simp only [wrap64]
  omega
set_option maxHeartbeats 16000000
set_option maxRecDepth 100000
theorem restart_dk {w : World} {r : Nat} {d : Dk} {mn ms : Nat} {pv : Value} {A : Nat → Nat} {B : Nat → Value} (h : DkAt w r d mn ms pv A B) (s : ByteArray) (hs : s.size ≤ 4611686018427387904) (hl : d.safe.length + d.pend.length ≤ 2000000) :
    Calls Try.prog 14 #[.pointer (some ⟨r, 0, none⟩), .string s] w fun e w' => e = .returned (.tuple #[]) ∧ ObjRep w' r (d.restart s) ∧ Mv w w' r := by
  have hal := below_alloc w (.cells #[.string s] 75)
  have hg : (w.alloc (.cells #[.string s] 75)).heap[w.heap.size]? = some (.cells #[.string s] 75 (0, 0)) := heap_alloc_new w _
  have h0 := h.below hal
  have T0 := top_all h0.top
  have T1 := top_all (w := (w.alloc (.cells #[.string s] 75)).drew) h0.top
  have HN := Aside0.mk (next_ok (w := (w.alloc (.cells #[.string s] 75)).drew) hg hs)
  have hrlt : r < w.heap.size := blk_lt h.top
  obtain ⟨X, cp, hpv, hcp, hX0, hX1⟩ := owns_form3 h.pend.1
  subst hpv
  have HH := Aside0.mk h
  have hc255 := nextC_lt s
  have HT0 := Aside0.mk h0.top
  have hwr1 : IntKind.i64.wrap ((d.pend.length : Int) + 1) = (d.pend.length : Int) + 1 := by
    rw [show IntKind.i64.wrap ((d.pend.length : Int) + 1) = wrap64 ((d.pend.length : Int) + 1) from (wrapK_eq .i64 _).symm]
    simp only [wrap64]
    omega
  have hnz : ¬ ((d.pend.length : Int) + 1 = 0) := by omega
  obtain ⟨N, hN⟩ : ∃ N, N = (nextC s).1 % (d.pend.length + 1) := ⟨_, rfl⟩
  have hNl : N ≤ d.pend.length := by have := Nat.mod_lt (nextC s).1 (show 0 < d.pend.length + 1 by omega); omega
  have hmod : ((nextC s).1 : Int).tmod ((d.pend.length : Int) + 1) = (N : Int) := by
    rw [Int.tmod_eq_emod_of_nonneg (by omega), hN]
    rfl
  have HNN := Aside0.mk hN
  clear hN
  clear h h0 hal hg hX0 hX1
  go_enter Try.func14, Try.ntmps14
  go_wp2
  clear T0
  go_region_law (refine step_calls (by rfl) (f := 30) (by go_simp) HN.out (fun e w' h => ⟨_, h.1⟩) ?_; rintro e w1 ⟨he, hg1, hw1, hz1⟩; cases he; have htop1 : Top w1 r d.quota (.map (some mn)) (.map (some ms)) (.slice X d.pend.length cp) d.left d.down := (hw1.block r (by simp; omega) (by intro e; cases e; omega)).trans HT0.out; have T2 := top_all htop1; have HX := Aside0.mk (And.intro htop1 (And.intro hg1 hw1)); clear htop1 hg1 hw1)
  all_goals
    clear T1 HN
    go_wp2
    have hz : w1.heap.size = w.heap.size + 1 := by simpa using hz1
    have HO1 : Aside0 (∀ b, b < w.heap.size → w1.heap[b]? = w.heap[b]?) := ⟨fun b hb => (HX.out.2.2.block b (by simp; omega) (by intro e; cases e; omega)).trans ((below_alloc w _).block b hb)⟩
    have hmslt : ms < w.heap.size := HH.out.safe.lt
    clear hz1 hmod hnz hwr1 HT0 T2
    go_loopw [8, 36] (fun _ i wr => ∃ k : Nat, k ≤ N ∧ i = .int .i64 k ∧ But w1 wr (fun b => b = ms) ∧ MapAt wr ms A ((d.pend.take k).foldl doC d.safe)) (fun _ i _ => N - (intOf i).toNat)
    case atStart => exact ⟨0, Nat.zero_le _, rfl, But.refl _ _, HH.out.safe.stay (HO1.out ms hmslt)⟩
    case round =>
      obtain ⟨k, hk, rfl, hbw, hmp⟩ := hrel
      have hwz : w1.heap.size ≤ wr.heap.size := hbw.size
      rcases Nat.lt_or_ge k N with hlt | hge
      · have hkl : k < d.pend.length := by omega
        have hpc : d.pend[k]? = some d.pend[k] := List.getElem?_eq_getElem hkl
        obtain ⟨pg, rfl⟩ : ∃ pg, X = some ⟨pg, 0, none⟩ := by
          rcases HH.out.pend.1.2 with ⟨_, e⟩ | ⟨g, cap, cur, e, _⟩
          · omega
          · injection e with e1; exact ⟨g, e1⟩
        have hcs : ∀ j u, (chg A d.pend[k])[j]? = some u → wr.cell? ⟨pg, k * 3 + j, none⟩ = some u := by
          intro j u hu
          have h1 := HH.out.pend.1.cells (g := pg) rfl (k * 3 + j) u (flat_at A d.pend k d.pend[k] hpc j u hu)
          have hpgl := HH.out.pend.lt (g := pg) rfl
          have hpm : pg ≠ ms := fun e => HH.out.kinds.2.2.2.2.2 (by rw [← e]; rfl)
          have h2 : wr.heap[pg]? = w.heap[pg]? := (hbw.block pg (by omega) hpm).trans (HO1.out pg hpgl)
          rw [World.cell?_of_block (w := w) h2]
          rwa [add_plain] at h1
        have c0 := hcs 0 _ rfl
        have c1 := hcs 1 _ rfl
        have c2 := hcs 2 _ rfl
        simp only [Nat.add_zero] at c0
        have hok := okCs_at HH.out.wf.oks k _ hpc
        have hft : (d.pend.take (k + 1)).foldl doC d.safe = doC ((d.pend.take k).foldl doC d.safe) d.pend[k] := by
          rw [List.take_succ_eq_append_getElem hkl, List.foldl_append]
          rfl
        have HD := Aside0.mk (fun (W : World) (hW : W.heap[ms]? = wr.heap[ms]?) => do_any (hmp.stay hW) (foldC_rise _ HH.out.wf.safe) d.pend[k] hok)
        rw [← hft] at HD
        obtain ⟨z, hz2⟩ : ∃ z, oadr A d.pend[k].2.2 = .pointer z := by cases d.pend[k].2.2 <;> exact ⟨_, rfl⟩
        rw [hz2] at HD c2
        generalize d.pend[k].1 = x1 at *
        generalize d.pend[k].2.1 = x2 at *
        have HBW := Aside0.mk hbw
        clear hcs hok hft hz2 hmp hbw hpc
        go_wp2_with (go_at_call 31; refine (HD.out _ (Below.heap_alloc _ _ _ (by omega))).mono ?_; rintro e w3 ⟨rfl, hg3, hm3⟩; have HM3 := Aside0.mk (And.intro hg3 hm3); clear hg3 hm3)
        go_roundw
        case rel =>
          exact ⟨k + 1, by omega, by go_num, ((HBW.out.alloc _).trans (But.of_grown HM3.out.1 rfl)), HM3.out.2⟩
        case measure => simp [intOf]; omega
      · have hkN : k = N := by omega
        subst hkN
        have hL := HNN.out
        obtain ⟨L, hLd⟩ : ∃ L, L = (d.pend.take k).foldl doC d.safe := ⟨_, rfl⟩
        rw [← hLd] at hmp
        have hafter : d.after s = L := by unfold Dk.after; rw [← hL, hLd]
        have hrise : Rise L := by rw [hLd]; exact foldC_rise _ HH.out.wf.safe
        have hgood : ∀ p ∈ L, p.1.size ≤ 64 := by rw [hLd]; exact foldC_good _ HH.out.wf.good.2.1 (fun c hc => HH.out.wf.good.2.2 c (List.mem_of_mem_take hc))
        have hlen : L.length ≤ 4000000 := by
          have := foldC_len (d.pend.take k) d.safe
          rw [hLd]
          have h2 : (d.pend.take k).length ≤ d.pend.length := List.length_take_le' ..
          omega
        have hrefs : ∀ i ∈ L.map (·.2), i ∈ d.refs := by
          intro i hi
          obtain ⟨p, hp, rfl⟩ := List.mem_map.1 hi
          rw [hLd] at hp
          rcases foldC_idx _ hp with ⟨q, hq, e⟩ | ⟨c, hc, e⟩
          · rw [← e]; exact refs_safe hq
          · exact refs_pend (List.mem_of_mem_take hc) e
        have HK := Aside0.mk (keys_ok ms wr)
        have HS := Aside0.mk (keys_sorted hmp hrise hgood hlen)
        have HA := Aside0.mk (And.intro hafter (And.intro hrise (And.intro hrefs (And.intro hmp (And.intro hbw hgood)))))
        clear hL hLd hafter hrise hgood hrefs hmp hbw
        go_wp2_with (first
          | (go_at_call 33; refine HK.out.mono ?_; rintro e w3 ⟨rfl, rfl⟩)
          | (go_at_call 32; refine HS.out.mono ?_; rintro e w4 ⟨v, rfl, hrow, -, hb4⟩; obtain ⟨Y, cy, rfl, hcy, -, -⟩ := owns_form3 (ownsRow_base_a hrow (Nat.zero_le _)); have HX4 := Aside0.mk (And.intro hrow hb4); clear hrow hb4))
        clear hk hge HK HS
        obtain ⟨a1, a2, a3, a4, a5, a6⟩ := HA.out
        obtain ⟨x1, x2⟩ := HX4.out
        have o4 : ∀ b, b < w.heap.size → b ≠ ms → w4.heap[b]? = w.heap[b]? := fun b hb hne => (x2.block b (by omega)).trans ((a5.block b (by omega) hne).trans (HO1.out b hb))
        have g4 : w4.heap[w.heap.size]? = some (.cells #[.string (nextC s).2] 75 (0, 0)) := (x2.block _ (by omega)).trans ((a5.block _ (by omega) (by omega)).trans HX.out.2.1)
        have m4 : MapAt w4 ms A L := a4.stay (x2.block ms (by omega))
        have f4 : Fls w4 A B d.files (L.map (·.2)) := by
          refine ⟨fun i hi => ?_, fun i hi j hj => HH.out.apart i (a3 i hi) j (a3 j hj)⟩
          obtain ⟨f, q1, q2, q3⟩ := HH.out.file i (a3 i hi)
          have hk := HH.out.fkinds (a3 i hi)
          refine ⟨f, q1, by rw [o4 _ (blk_lt q2) hk.2.2.1]; exact q2, owns_stay q3 fun b hb => o4 b ?_ (fun e => hk.2.2.2.2.2.2.1 (by rw [hb, e])), HH.out.wf.most f (List.mem_of_getElem? q1)⟩
          obtain ⟨cur, hc⟩ := owns_at q3 hb
          exact blk_lt hc
        have alt : ∀ i ∈ L.map (·.2), A i < w.heap.size ∧ A i ≠ ms := fun i hi => by
          obtain ⟨f, q1, q2, q3⟩ := HH.out.file i (a3 i hi)
          exact ⟨blk_lt q2, (HH.out.fkinds (a3 i hi)).2.2.1⟩
        have hY : ∀ yb, Y = some ⟨yb, 0, none⟩ → w.heap.size < yb ∧ yb < w4.heap.size := fun yb hy => by
          subst hy
          rcases x1.2 with ⟨e, _⟩ | ⟨g, cap, cur, e, h0, h1, _⟩
          · cases e
          · cases e; exact ⟨by omega, blk_lt h1⟩
        have HY := Aside0.mk hY
        have HB4 := Aside0.mk (show But w1 w4 (fun b => b = ms) from a5.trans (But.of_below x2 fun i h1 h2 => absurd h1 (by omega)))
        have HF4 := Aside0.mk (And.intro o4 (And.intro g4 (And.intro m4 (And.intro f4 alt))))
        have hwz4 : wr.heap.size ≤ w4.heap.size := x2.size
        clear a1 a2 a3 a4 a5 a6 x1 x2 o4 g4 m4 f4 alt hY
        go_loopw [10, 11, 12, 48] (fun _ _ _ i wz => ∃ k2 : Nat, k2 ≤ L.length ∧ i = .int .i64 k2 ∧ ∃ B' fs' s', Fls wz A B' fs' (L.map (·.2)) ∧ wz.heap[w.heap.size]? = some (.cells #[.string s'] 75 (0, 0)) ∧ s'.size ≤ 4611686018427387904 ∧ But w4 wz (fun b => b = w.heap.size ∨ ∃ i ∈ L.map (·.2), b = A i) ∧ cutAll (L.drop k2) fs' s' = cutAll L d.files (nextC s).2 ∧ ∀ i ∈ L.map (·.2), ∀ g, blkOf (B' i) = some g → blkOf (B i) = some g) (fun _ _ _ i _ => L.length - (intOf i).toNat)
        case atStart => exact ⟨0, Nat.zero_le _, rfl, B, d.files, (nextC s).2, HF4.out.2.2.2.1, HF4.out.2.1, Nat.le_trans (nextC_size s) hs, But.refl _ _, rfl, fun _ _ _ h => h⟩
        case round =>
          obtain ⟨k2, hk2, rfl, B', fs', s', hfl, hch, hs', hb2, hcut, hBB⟩ := hrel
          have hzz : w4.heap.size ≤ wr.heap.size := hb2.size
          have hms2 : wr.heap[ms]? = w4.heap[ms]? := hb2.block ms (by omega) (by
            rintro (e | ⟨i, hi, e⟩)
            · omega
            · exact (HF4.out.2.2.2.2 i hi).2 e.symm)
          rcases Nat.lt_or_ge k2 L.length with hlt | hge
          · obtain ⟨p, hp⟩ : ∃ p, L[k2]? = some p := ⟨_, List.getElem?_eq_getElem hlt⟩
            have hpm : p ∈ L := List.mem_of_getElem? hp
            have hi : p.2 ∈ L.map (·.2) := List.mem_map.2 ⟨p, hpm, rfl⟩
            obtain ⟨f, q1, q2, q3, q4, q5⟩ := hfl.file p.2 hi
            obtain ⟨X', c', hB, hc', hX', -⟩ := owns_form3 q3
            rw [hB] at q2 q3
            have hmz : MapAt wr ms A L := HF4.out.2.2.1.stay hms2
            have hi2 := HF4.out.2.2.2.2 p.2 hi
            have hLK := MapAt.lookup0 Try.underlying60 Try.underlying9 hmz HA.out.2.1 p.1 (by kernel_rfl)
            rw [nmF_some HA.out.2.1 hpm] at hLK
            have hLK2 : (Instr.lookup 60 (.map (some ms)) (.string p.1) false).run Try.prog wr = .ok (.pointer (some ⟨A p.2, 0, none⟩)) wr := hLK
            obtain ⟨yb, rfl⟩ : ∃ yb, Y = some ⟨yb, 0, none⟩ := by
              rcases HX4.out.1.2 with ⟨_, e⟩ | ⟨g, cap, cur, e, _⟩
              · omega
              · injection e with e1; exact ⟨g, e1⟩
            have hyc : wr.cell? ⟨yb, k2, none⟩ = some (.string p.1) := by
              have h1 := HX4.out.1.cells (g := yb) rfl k2 (.string p.1) (by simp [hp])
              rw [add_plain] at h1
              rw [← h1]
              obtain ⟨hy1, hy2⟩ := HY.out yb rfl
              exact World.cell?_of_block (hb2.block yb hy2 (by
                rintro (e | ⟨i, hi', e⟩)
                · omega
                · have := (HF4.out.2.2.2.2 i hi').1
                  omega))
            obtain ⟨c, s2, hcs⟩ : ∃ c s2, nextC s' = (c, s2) := ⟨_, _, rfl⟩
            have hc255 : c ≤ 255 := by have := nextC_lt s'; rw [hcs] at this; exact this
            have hs2 : s2.size ≤ s'.size := by have := nextC_size s'; rw [hcs] at this; exact this
            obtain ⟨R, hR⟩ : ∃ R, R = f.1.size - f.2 := ⟨_, rfl⟩
            obtain ⟨M, hM⟩ : ∃ M, M = c * (R + 1) := ⟨_, rfl⟩
            obtain ⟨Q, hQ⟩ : ∃ Q, Q = M / 256 := ⟨_, rfl⟩
            obtain ⟨K, hK⟩ : ∃ K, K = f.2 + Q := ⟨_, rfl⟩
            have hQR : Q ≤ R := by rw [hQ, hM]; exact cut_le hc255 R
            have hKl : K ≤ f.1.size := by omega
            have hKc : K ≤ c' := by omega
            have hMl : M ≤ 255 * 1099511627777 := by rw [hM]; exact Nat.mul_le_mul hc255 (by omega)
            have wR : IntKind.i64.wrap ((f.1.size : Int) - (f.2 : Int)) = (R : Int) := wrap_is (by omega) (by omega)
            have wR1 : IntKind.i64.wrap ((R : Int) + 1) = (R : Int) + 1 := wrap_is (n := R + 1) (by omega) (by omega)
            have wM : IntKind.i64.wrap ((c : Int) * ((R : Int) + 1)) = (M : Int) := wrap_is (by rw [hM]; push_cast; rfl) (by omega)
            have wQ0 : (M : Int).tdiv 256 = (Q : Int) := by rw [hQ, Int.tdiv_eq_ediv_of_nonneg (by omega)]; rfl
            have wQ : IntKind.i64.wrap (Q : Int) = (Q : Int) := wrap_is rfl (by omega)
            have wK : IntKind.i64.wrap ((f.2 : Int) + (Q : Int)) = (K : Int) := wrap_is (by omega) (by omega)
            have HN2 := Aside0.mk (next_ok (w := wr.drew.drew) hch hs')
            rw [hcs] at HN2
            have F0 := fil_all q2
            have F1 := fil_all (w := wr.drew) q2
            have F2 := fil_all (w := wr.drew.drew) q2
            have REST : ∀ w5, w5.heap[w.heap.size]? = some (.cells #[.string s2] 75 (0, 0)) → wr.drew.drew.grownBy w5 (some w.heap.size) → w5.heap.size = wr.drew.drew.heap.size → ∀ T0 T1, w5.setCell ⟨A p.2, 0, none⟩ T0 = w5.setCell ⟨A p.2, 0, none⟩ (.slice X' K c') → T1 = .int .i64 K →
                ∃ B2 fs2 s3, Fls ((w5.setCell ⟨A p.2, 0, none⟩ T0).setCell ⟨A p.2, 1, none⟩ T1) A B2 fs2 (L.map (·.2)) ∧ ((w5.setCell ⟨A p.2, 0, none⟩ T0).setCell ⟨A p.2, 1, none⟩ T1).heap[w.heap.size]? = some (.cells #[.string s3] 75 (0, 0)) ∧ s3.size ≤ 4611686018427387904 ∧
                  But w4 ((w5.setCell ⟨A p.2, 0, none⟩ T0).setCell ⟨A p.2, 1, none⟩ T1) (fun b => b = w.heap.size ∨ ∃ i ∈ L.map (·.2), b = A i) ∧ cutAll (L.drop (k2 + 1)) fs2 s3 = cutAll L d.files (nextC s).2 ∧ ∀ i ∈ L.map (·.2), ∀ g, blkOf (B2 i) = some g → blkOf (B i) = some g := by
              intro w5 hg5 hw5 hz5 T0 T1 e0 e1
              rw [e0, e1]
              have hq5 : w5.heap[A p.2]? = _ := (hw5.block (A p.2) (by show _ < wr.heap.size; omega) (fun e => by injection e with e; omega)).trans q2
              have hst := blk_set (blk_set hq5 0 (.slice X' K c')) 1 (.int .i64 K)
              have hbl : But w5 ((w5.setCell ⟨A p.2, 0, none⟩ (.slice X' K c')).setCell ⟨A p.2, 1, none⟩ (.int .i64 K)) (fun b => b = A p.2) := But.set (S := fun b => b = A p.2) (But.set (S := fun b => b = A p.2) (But.refl _ _) ⟨A p.2, 0, none⟩ rfl _) ⟨A p.2, 1, none⟩ rfl _
              refine ⟨_, _, s2, hfl.cut hi q1 hKl hB hst ?_, ?_, by omega, (hb2.trans (But.trans (w1 := wr.drew.drew) ⟨rfl, rfl, rfl, Nat.le_refl _, fun _ _ _ => rfl⟩ (But.of_grown hw5 (.inl rfl)))).trans (hbl.mono fun i _ e => .inr ⟨p.2, hi, e⟩), ?_, ?_⟩
              · intro b hb hne hj
                have hbc : b ≠ w.heap.size := by
                  rintro rfl
                  obtain ⟨j, hj, e | e⟩ := hj
                  · have := (HF4.out.2.2.2.2 j hj).1
                    omega
                  · obtain ⟨_, _, _, k3, _⟩ := hfl.file j hj
                    obtain ⟨cur, hc⟩ := owns_at k3 e
                    rw [hch] at hc
                    injection hc with hc
                    injection hc with _ h2 _
                    exact absurd h2 (by decide)
                exact (hbl.block b (by rw [hz5]; exact hb) hne).trans (hw5.block b hb (fun e => by injection e with e; omega))
              · exact (hbl.block _ (by have h1 : w5.heap.size = wr.heap.size := hz5; omega) (by omega)).trans hg5
              · rw [← hcut, List.drop_eq_getElem_cons hlt]
                have hpk : L[k2] = p := by rw [List.getElem?_eq_getElem hlt] at hp; exact Option.some.inj hp
                have hfa : fileAt fs' p.2 = f := by unfold fileAt; rw [q1]; rfl
                rw [hpk]
                show _ = cutAll _ (fs'.set p.2 (Dk.cutF (nextC s').1 (fileAt fs' p.2))) (nextC s').2
                rw [hcs, hfa]
                show _ = cutAll _ (fs'.set p.2 (Dk.cutF c f)) s2
                have hcF : Dk.cutF c f = (f.1.extract 0 K, K) := by unfold Dk.cutF; rw [hK, hQ, hM, hR]
                rw [hcF]
              · intro j hj g hg
                by_cases hji : j = p.2
                · subst hji
                  rw [if_pos rfl] at hg
                  refine hBB _ hj g ?_
                  rw [hB]
                  cases X' with
                  | none => cases hg
                  | some a => exact hg
                · rw [if_neg hji] at hg
                  exact hBB _ hj g hg
            have HR2 := Aside0.mk (And.intro hfl (And.intro hb2 (And.intro hcut (And.intro hch (And.intro q1 (And.intro q2 (And.intro hp (And.intro q3 (And.intro hB (And.intro hcs (And.intro hR (And.intro hM (And.intro hQ hK)))))))))))))
            have RE := Aside0.mk REST
            clear REST
            clear hfl hb2 hcut hBB hch q1 q2 hp q3 hB hcs hR hM hQ hK hLK hmz hms2 hX'
            go_wp2
            go_region
            all_goals
              clear F0 F1 wR hLK2 hyc
              go_wp2
              go_region_law (refine step_calls (by rfl) (f := 30) (by go_simp) HN2.out (fun e w' h => ⟨_, h.1⟩) ?_; rintro e w5 ⟨he, hg5, hw5, hz5⟩; cases he; have hq5 : w5.heap[A p.2]? = _ := ((hw5.block (A p.2) (by show _ < wr.heap.size; omega) (fun e => by injection e with e; omega)).trans HR2.out.2.2.2.2.2.1); have F5 := fil_all hq5; have HX5 := Aside0.mk (RE.out w5 hg5 hw5 hz5); clear hg5 hw5 hz5 hq5)
            all_goals
              go_wp2
              go_roundw
              case rel => exact ⟨k2 + 1, by omega, by go_num, HX5.out _ _ rfl rfl⟩
              case measure => simp [intOf]; omega
          · have hkL : k2 = L.length := by omega
            subst hkL
            have HC := Aside0.mk (mapAt_clone (HF4.out.2.2.1.stay hms2))
            have hcf : fs' = cutAll L d.files (nextC s).2 := by rw [← hcut, List.drop_length]; rfl
            have FIN : ∀ w6, Below wr.heap.size wr w6 → MapAt w6 wr.heap.size A L → Top w6 r d.quota (.map (some mn)) (.map (some ms)) (.slice X d.pend.length cp) d.left d.down ∧
                (let wf := ((((w6.setCell ⟨r, 1, none⟩ (.map (some wr.heap.size))).setCell ⟨r, 2, none⟩ (.map (some ms))).setCell ⟨r, 3, none⟩ (.slice none 0 0)).setCell ⟨r, 4, none⟩ (.int .i64 (-1))).setCell ⟨r, 5, none⟩ (.bool false); ObjRep wf r (d.restart s) ∧ Mv w wf r) := by
              intro w6 hb6 hm6
              obtain ⟨a1, a2, a3, a4, a5, a6⟩ := HA.out
              obtain ⟨o4, g4, m4, f4, alt⟩ := HF4.out
              have hz6 := hb6.size
              have hAr : ∀ i ∈ L.map (·.2), A i ≠ r := fun i hi => (HH.out.fkinds (a3 i hi)).1
              have hrr : wr.heap[r]? = w.heap[r]? := (hb2.block r (by omega) (by rintro (e | ⟨i, hi, e⟩); omega; exact hAr i hi e.symm)).trans (o4 r hrlt HH.out.kinds.2.2.1)
              have htop6 : Top w6 r d.quota (.map (some mn)) (.map (some ms)) (.slice X d.pend.length cp) d.left d.down := ((hb6.block r (by omega)).trans hrr).trans HH.out.top
              refine ⟨htop6, ?_⟩
              have hbS : But w6 (((((w6.setCell ⟨r, 1, none⟩ (.map (some wr.heap.size))).setCell ⟨r, 2, none⟩ (.map (some ms))).setCell ⟨r, 3, none⟩ (.slice none 0 0)).setCell ⟨r, 4, none⟩ (.int .i64 (-1))).setCell ⟨r, 5, none⟩ (.bool false)) (fun b => b = r) :=
                But.set (But.set (But.set (But.set (But.set (S := fun b => b = r) (But.refl _ _) ⟨r, 1, none⟩ rfl _) ⟨r, 2, none⟩ rfl _) ⟨r, 3, none⟩ rfl _) ⟨r, 4, none⟩ rfl _) ⟨r, 5, none⟩ rfl _
              have st : ∀ b, b < wr.heap.size → b ≠ r → (((((w6.setCell ⟨r, 1, none⟩ (.map (some wr.heap.size))).setCell ⟨r, 2, none⟩ (.map (some ms))).setCell ⟨r, 3, none⟩ (.slice none 0 0)).setCell ⟨r, 4, none⟩ (.int .i64 (-1))).setCell ⟨r, 5, none⟩ (.bool false)).heap[b]? = wr.heap[b]? :=
                fun b hb hne => (hbS.block b (by omega) hne).trans (hb6.block b hb)
              refine HH.out.restarted a1 a2 a6 a3 (hfl.stay fun i hi => ⟨st _ (by have := (alt i hi).1; omega) (hAr i hi), fun b hb => ?_⟩) hcf ?_ ?_ ((m4.stay hms2).stay (st ms (by omega) (fun e => HH.out.kinds.2.2.1 e.symm))) (mc := wr.heap.size) (by omega) ?_ hBB
              · obtain ⟨_, _, _, k3, _⟩ := hfl.file i hi
                obtain ⟨cur, hc⟩ := owns_at k3 hb
                refine st b (blk_lt hc) ?_
                rintro rfl
                rw [hrr, HH.out.top] at hc
                injection hc with hc
                injection hc with _ h2 _
                exact absurd h2 (by decide)
              · exact blk_set (blk_set (blk_set (blk_set (blk_set htop6 1 _) 2 _) 3 _) 4 _) 5 _
              · exact hm6.stay (hbS.block _ hm6.lt (by omega))
              · have b1 : But w w1 (fun b => b = r ∨ b = ms ∨ ∃ i ∈ L.map (·.2), b = A i) := ⟨HX.out.2.2.os, HX.out.2.2.tape, HX.out.2.2.output, by omega, fun b hb _ => HO1.out b hb⟩
                have b2 := b1.trans (HB4.out.mono fun i _ e => .inr (.inl e))
                refine ⟨?_, ?_, ?_, ?_, fun b hb hn => ?_⟩
                · exact (hbS.os.trans hb6.os).trans (hb2.os.trans b2.os)
                · exact (hbS.tape.trans hb6.tape).trans (hb2.tape.trans b2.tape)
                · exact (hbS.output.trans hb6.output).trans (hb2.output.trans b2.output)
                · have := hbS.size; omega
                · exact (st b (by omega) (fun e => hn (.inl e))).trans ((hb2.block b (by omega) (by rintro (e | e); omega; exact hn (.inr (.inr e)))).trans (b2.block b hb hn))
            have HFI := Aside0.mk FIN
            clear hk2 hge hfl hch hs' hb2 hcut hms2 hBB hcf FIN
            go_wp2_with (first
              | (go_at_call 34; refine HC.out.mono ?_; rintro e w6 ⟨rfl, hb6, hz6, hm6⟩; obtain ⟨htop6, hfin⟩ := HFI.out w6 hb6 hm6; have T6 := top_all htop6; have HR6 := Aside0.mk hfin; clear hb6 hz6 hm6 htop6 hfin))
            go_end0
            exact ⟨rfl, HR6.out⟩
end Go.Proofs.Ytgjelmfhkongcaa.D
