/-
  The document's emit: alternatives, the walk.
-/
import Derived.Test.YtokcffkffcfolaaRjF
namespace Go.Proofs.Ytokcffkffcfolaa.Rh
open Go Go.RowKit Go.Proofs.Ytokcffkffcfolaa.Rg

theorem seg_set (A : List Inst) (x y : Inst) (B : List Inst) (j : Inst) {N : Nat} (h : A.length = N) : (A ++ [x] ++ B ++ [j]).set N y = A ++ (y :: (B ++ [j])) := by
  subst h; simp
theorem altM_done {L : List Inst} {ks : List T} {n y : T} {k : Nat} (h : ks[k]? = some y) (hl : (L ++ altM ks n L.length k).length = altN ks n L.length k) :
    (L ++ altM ks n L.length k ++ [(⟨1, .zero, altN ks n L.length k + 1, 0⟩ : Inst)] ++ y.re.code (altN ks n L.length k + 1) ++ [(⟨2, .zero, 0, 0⟩ : Inst)]).set (altN ks n L.length k) ⟨1, .zero, altN ks n L.length k + 1, altN ks n L.length k + 1 + y.re.len + 1⟩ = L ++ altM ks n L.length (k + 1) := by
  rw [seg_set _ _ _ _ _ hl, altM_step h, seg, List.append_assoc]
  congr 4; omega

set_option maxRecDepth 100000 in
set_option maxHeartbeats 16000000 in
theorem emit_alt (l n : T) (hl : (T.snoc l n).isL) (hlL : (T.snoc l n).len ≤ 20000) (hn : ∀ y ∈ (T.snoc l n).kids, EmitC y) : EmitC (.node 2 (.snoc l n)) := by
  intro W base v L cs hown hbase hH hlen
  obtain ⟨vk, ls, hcs, hR⟩ := hH.row
  have hX := nodeX 2 vk
  have hcs' : cs = ncl 2 vk none256 := hcs
  rw [← hcs'] at hX
  clear hcs hcs'
  obtain ⟨⟨ak, capk, rfl, hak⟩, hHl⟩ := hR
  obtain ⟨-, hkid⟩ := Held.kid hl hHl
  have hl' : l.isL := by rw [T.isL] at hl; exact hl.1
  have hkl := T.kids_length l hl'
  obtain ⟨ks, hks⟩ : ∃ ks, ks = l.kids := ⟨_, rfl⟩
  obtain ⟨m, hm⟩ : ∃ m, m = (T.snoc l n).len := ⟨_, rfl⟩
  have hmk : m = ks.length + 1 := by rw [hm, hks, hkl]; rfl
  have hkk : (T.snoc l n).kids = ks ++ [n] := by rw [T.kids, hks]
  rw [hkk] at hkid hn
  rw [← hm] at hlL hak hX
  have hfin := alt_done L l n hl'
  rw [← hks] at hfin
  have hre : (T.node 2 (.snoc l n)).re.len = lenS ks + n.re.len := by
    rw [show (T.node 2 (.snoc l n)).re = l.altJ n.re by simp [T.re, T.all], hks]; exact (altJ_code l n.re 0 hl').1
  rw [hre] at hlen
  have HEc := Lib.hid hfin; clear hfin hre
  have hE := Alt.start (Emi.start (x := cs) hown hbase)
  obtain ⟨ao, capv, rfl⟩ := own_any hown
  have hln := hX.len
  have hne := hX.ne
  have hg0 := hX.g0
  have hg1 := hX.g1
  have HX := Lib.hid hX; clear hX
  have HE := Lib.hid hE; clear hE hown hH hHl
  have HK := Lib.hid hkid; clear hkid
  have HA := Lib.hid hak; clear hak
  have HN := Lib.hid hn; clear hn
  have HM := Lib.hid hmk; clear hmk
  clear hks hm hkk hkl hl hl'
  have hc1 := fun (wr : World) (v : Value) (N : Nat) (M : List Inst) (h : Emi W base cs (.slice ao L.length capv) wr v N M) => blk_cell h.box 1
  have HC1 := Lib.hid hc1; clear hc1
  go_enter Try.func37, Try.ntmps37
  go_wp2_with fail
  go_loopw [0, 7, 8] (fun vp vq i wr => ∃ (vo : Value) (k N : Nat) (M : List Inst) (O : List Nat) (ap : Option Addr) (capp : Nat), vo = vq ∧ k ≤ m ∧ i = .int .i64 (k : Int) ∧ vp = .slice ap N capp ∧ Alt W base cs (.slice ao L.length capv) wr vp N M vo O ∧ N = altN ks n L.length k ∧ M = L ++ altM ks n L.length k ∧ O = outsOf (ks.take k) L.length) (fun _ _ i _ => m - (intOf i).toNat)
  case atStart => exact ⟨_, 0, L.length, L, [], ao, capv, rfl, Nat.zero_le _, rfl, rfl, HE.out, by rw [altN_zero], by rw [altM_zero, List.append_nil], by simp [outsOf]⟩
  case round =>
    obtain ⟨vo, k, N, M, O, ap, capp, rfl, hk, rfl, rfl, hA, hN, hMM, hO⟩ := hrel
    have hc1 := HC1.out _ _ _ _ hA.e
    have hNle := altN_le ks n L.length k
    rw [← hN] at hNle
    have hLe := hA.e.len
    have HAr := Lib.hid hA; clear hA
    have HLe := Lib.hid hLe; clear hLe
    have HQ := Lib.hid (And.intro hN (And.intro hMM hO)); clear hN hMM hO
    by_cases hlt : k < m
    · obtain ⟨b, rfl, hb, hr⟩ := HA.out (by omega)
      by_cases hk1 : k + 1 < m
      · have hk1' : (k : Int) + 1 < (m : Int) := by omega
        have hkl : k < ks.length := by have := HM.out; omega
        obtain ⟨y, hyk⟩ : ∃ y, ks[k]? = some y := ⟨_, List.getElem?_eq_getElem hkl⟩
        obtain ⟨c, hcl, hHc, hcj⟩ := HK.out k y (by rw [List.getElem?_append_left hkl]; exact hyk)
        have hyE := HN.out y (List.mem_append_left _ (List.mem_of_getElem? hyk))
        have hs1 := altN_step (n := n) (o := L.length) hyk
        have hs2 := altM_done (n := n) hyk (by rw [← HQ.out.2.1, ← HQ.out.1]; exact HLe.out)
        have hs3 := outs_step (n := n) (o := L.length) hyk
        have hs4 := altN_le ks n L.length (k + 1)
        have hol : (outsOf (ks.take k) L.length).length ≤ 100000 := by rw [outsOf_length, List.length_take]; omega
        rw [← HQ.out.2.2] at hs3 hol
        rw [← HQ.out.2.1, ← HQ.out.1] at hs2
        rw [← HQ.out.1] at hs1 hs3
        have hb4 : N + 1 + y.re.len ≤ 100000 := by omega
        have HRk := Lib.hid (range_kid hr hcl hcj); clear hr
        have HS := Lib.hid (And.intro hs1 (And.intro hs2 hs3)); clear hs1 hs2 hs3 hs4
        have HCj := Lib.hid hcj; clear hcj
        have HHc := Lib.hid hHc; clear hHc
        have HYe := Lib.hid hyE; clear hyE
        have HYk := Lib.hid hyk; clear hyk
        have hbi : (Try.prog.info? 38).map (·.size) = some c.length := by rw [hcl]; exact nodeSize
        have HBi := Lib.hid hbi; clear hbi
        have HCl := Lib.hid hcl; clear hcl
        have hz87 := zero87
        have hk0 := icl_set0 0 2 (fun _ => false) 0 0
        have hkA := fun a' : Int => icl_setA 2 a' (fun _ => false) 0 0
        go_wp2_with fail
        clear hz87 hk0 hkA
        refine wp_slice1 84 87 259 _ (.tmp 60) rfl (icl 2 (fun _ => false) ((N : Int) + 1) 0).toArray rfl Try.underlying84 infoInst (by decide) (by decide) (icl_size _ _ _ _) ?_
        go_wp2_with fail
        refine wp_pushA (.tmp 57) (.tmp 61) rfl HAr.out (by omega) _ _ _ _ ⟨1, .zero, N + 1, 0⟩ (by rw [rcl_fork]; rfl) rfl rfl ?_
        intro g1 cap1 w1 hA1
        have HA1 := Lib.hid hA1; clear hA1 hc1
        have hc2 := HC1.out _ _ _ _ HA1.out.e
        have HR1 := Lib.hid (HA1.out.e.range hb HRk.out)
        go_wp2_with fail
        refine wp_load_mid 38 (.tmp 67) rfl b (k * 258) rfl c _ HR1.out Try.underlying38 rfl HBi.out ?_
        go_wp2_with fail
        (with_reducible refine (HYe.out.runA HA1.out HHc.out hb4).mono ?_)
        rintro q w2 ⟨a2, cap2, rfl, hA2⟩
        have HA2 := Lib.hid hA2; clear hA2 hc2
        have hc3 := HC1.out _ _ _ _ HA2.out.e
        have hz87 := zero87
        have hj0 := icl_set0 0 3 (fun _ => false) 0 0
        go_wp2_with (at_builtin; refine wpList_out rfl (.tmp 76) (.tmp 79) rfl HA2.out hol ((N : Int) + 1 + (y.re.len : Int)) (N + 1 + y.re.len) (by omega) rfl rfl ?_; intro g3 cap3 w3 hA3; have HA3 := Lib.hid hA3; clear hA3 hc3)
        clear hz87 hj0
        refine wp_slice1 84 87 259 _ (.tmp 82) rfl (icl 3 (fun _ => false) 0 0).toArray rfl Try.underlying84 infoInst (by decide) (by decide) (icl_size _ _ _ _) ?_
        go_wp2_with fail
        refine wp_pushA (.tmp 81) (.tmp 83) rfl HA3.out (by omega) _ _ _ _ ⟨2, .zero, 0, 0⟩ (by rw [rcl_jump]; rfl) rfl rfl ?_
        intro g4 cap4 w4 hA4
        have hget : (M ++ [(⟨1, .zero, N + 1, 0⟩ : Inst)] ++ y.re.code (N + 1) ++ [(⟨2, .zero, 0, 0⟩ : Inst)])[N]? = some ⟨1, .zero, N + 1, 0⟩ := by rw [← HLe.out]; simp
        have hcell := hA4.e.cell hget 258 (by decide)
        rw [rcl_b] at hcell
        have hfz := hA4.e.fz (N * 259 + 258)
        have hst := hA4.set hget (j := 258) (by decide) (.int .i64 ((N : Int) + 1 + (y.re.len : Int) + 1)) ⟨1, .zero, N + 1, N + 1 + y.re.len + 1⟩ (by rw [show (N : Int) + 1 + (y.re.len : Int) + 1 = ((N + 1 + y.re.len + 1 : Nat) : Int) by omega]; exact rcl_setB ⟨1, .zero, N + 1, 0⟩ _)
        rw [HS.out.2.1] at hst
        have HSt := Lib.hid hst; clear hst hget hA4
        have hcl' : (N : Int) < (N : Int) + 1 + (y.re.len : Int) + 1 := by omega
        go_wp2_with fail
        go_roundw
        case rel =>
          have hf : N + 1 + y.re.len + 1 = altN ks n L.length (k + 1) := by rw [HS.out.1]; omega
          exact ⟨_, k + 1, N + 1 + y.re.len + 1, L ++ altM ks n L.length (k + 1), O ++ [N + 1 + y.re.len], _, cap4, rfl, by omega, by go_num, rfl, HSt.out, hf, rfl, by rw [HS.out.2.2]; congr 2; omega⟩
        case measure => (simp [intOf] <;> omega)
      · have hk1' : (m : Int) ≤ (k : Int) + 1 := by omega
        have hke : k = ks.length := by have := HM.out; omega
        obtain ⟨c, hcl, hHc, hcj⟩ := HK.out k n (by rw [hke]; simp)
        have hyE := HN.out n (by simp)
        have hs1 := altN_last ks n L.length
        have hs2 := altM_last ks n L.length
        have hs4 := altN_le ks n L.length (k + 1)
        rw [← hke, ← HQ.out.1] at hs1
        rw [← hke, ← HQ.out.1] at hs2
        rw [hs1] at hs4
        have hb4 : N + n.re.len ≤ 100000 := by omega
        have HRk := Lib.hid (range_kid hr hcl hcj); clear hr
        have HS := Lib.hid (And.intro hs1 (And.intro hs2 hke)); clear hs1 hs2 hs4 hke
        have HCj := Lib.hid hcj; clear hcj
        have HHc := Lib.hid hHc; clear hHc
        have HYe := Lib.hid hyE; clear hyE
        have hbi : (Try.prog.info? 38).map (·.size) = some c.length := by rw [hcl]; exact nodeSize
        have HBi := Lib.hid hbi; clear hbi
        have HCl := Lib.hid hcl; clear hcl
        have HR1 := Lib.hid (HAr.out.e.range hb HRk.out)
        go_wp2_with fail
        refine wp_load_mid 38 (.tmp 67) rfl b (k * 258) rfl c _ HR1.out Try.underlying38 rfl HBi.out ?_
        go_wp2_with fail
        (with_reducible refine (HYe.out.runA HAr.out HHc.out hb4).mono ?_)
        rintro q w2 ⟨a2, cap2, rfl, hA2⟩
        have hc3 := HC1.out _ _ _ _ hA2.e
        have hA3 : Alt W base cs (.slice ao L.length capv) w2 (.slice a2 (N + n.re.len) cap2) (N + n.re.len) (L ++ altM ks n L.length (k + 1)) vo O := by
          rw [HS.out.2.1, ← List.append_assoc, ← HQ.out.2.1]; exact hA2
        have HA3 := Lib.hid hA3; clear hA3 hA2 hc1
        go_wp2_with fail
        go_roundw
        case rel => exact ⟨_, k + 1, N + n.re.len, L ++ altM ks n L.length (k + 1), O, _, cap2, rfl, by omega, by go_num, rfl, HA3.out, by rw [HS.out.1], rfl, by rw [HQ.out.2.2, List.take_of_length_le (by have := HS.out.2.2; omega), List.take_of_length_le (by have := HS.out.2.2; omega)]⟩
        case measure => (simp [intOf] <;> omega)
    · have hke : k = ks.length + 1 := by have := HM.out; omega
      have hol : O.length ≤ 20000 := by rw [HQ.out.2.2, outsOf_length, List.length_take]; omega
      have hO : O = outsOf ks L.length := by rw [HQ.out.2.2, List.take_of_length_le (by omega)]
      have hOlt : ∀ p ∈ O, p < N := by
        intro p hp
        rw [hO] at hp
        have := outsOf_lt ks L.length p hp
        rw [HQ.out.1, hke, altN, if_neg (by omega), List.take_of_length_le (by omega)]
        omega
      have hfin : Rd.setA M N (O.take O.length) = L ++ (T.node 2 (.snoc l n)).re.code L.length := by
        rw [List.take_length, HQ.out.1, HQ.out.2.1, hO, hke]; exact HEc.out
      obtain ⟨aq, capq, rfl⟩ := own_any HAr.out.o
      have hMl : M.length = N := HLe.out
      have HOl := Lib.hid hOlt; clear hOlt
      have HF := Lib.hid (And.intro hfin (And.intro hke hO)); clear hfin hke hO
      have HMl := Lib.hid hMl; clear hMl
      obtain ⟨wo, hwo⟩ : ∃ wo : World, wo = wr := ⟨_, rfl⟩
      subst hwo
      go_wp2_with fail
      clear hc1
      go_loopw [10] (fun i wr => ∃ j : Nat, j ≤ O.length ∧ i = .int .i64 (j : Int) ∧ Alt W base cs (.slice ao L.length capv) wr (.slice ap N capp) N (Rd.setA M N (O.take j)) (.slice aq O.length capq) O) (fun i _ => O.length - (intOf i).toNat)
      case atStart => exact ⟨0, Nat.zero_le _, rfl, by simpa [Rd.setA] using HAr.out⟩
      case round =>
        obtain ⟨j, hj, rfl, hA⟩ := hrel
        by_cases hjl : j < O.length
        · obtain ⟨p, hp⟩ : ∃ p, O[j]? = some p := ⟨_, List.getElem?_eq_getElem hjl⟩
          have hpN := HOl.out p (List.mem_of_getElem? hp)
          obtain ⟨gq, capq', hvq, _, _⟩ := hA.o.form (by omega)
          obtain ⟨rfl, -, rfl⟩ : aq = some ⟨gq, 0, none⟩ ∧ True ∧ capq = capq' := by simpa using hvq
          obtain ⟨gp, capp', hvp⟩ := hA.e.form (by omega)
          obtain ⟨rfl, -, rfl⟩ : ap = some ⟨gp, 0, none⟩ ∧ True ∧ capp = capp' := by simpa using hvp
          clear hvq hvp
          obtain ⟨y, hy⟩ : ∃ y, (Rd.setA M N (O.take j))[p]? = some y := ⟨_, List.getElem?_eq_getElem (by rw [setA_length, HMl.out]; exact hpN)⟩
          have hread : wr.cell? ⟨gq, j, none⟩ = some (.int .i64 (p : Int)) := by
            rw [hA.o.cellAt j (by omega)]; simp [outVals, hp]
          have hcell := hA.e.cell hy 257 (by decide)
          rw [rcl_a] at hcell
          have hfz := hA.e.fz (p * 259 + 257)
          have hst := hA.set hy (j := 257) (by decide) (.int .i64 (N : Int)) { y with a := N } (rcl_setA y N)
          rw [← setA_next M N hp hy] at hst
          have HSt := Lib.hid hst; clear hst hA
          have hpN' : (p : Int) < (N : Int) := by omega
          have HY := Lib.hid hy; clear hy
          have HP := Lib.hid hp; clear hp
          go_wp2_with fail
          go_roundw
          case rel => exact ⟨j + 1, by omega, by go_num, HSt.out⟩
          case measure => (simp [intOf] <;> omega)
        · have hje : j = O.length := by omega
          have HJ := Lib.hid hje; clear hje
          have HA := Lib.hid hA; clear hA
          go_wp2_with fail
          go_ret
          refine ⟨_, rfl, ?_⟩
          refine HA.out.e.done ?_
          rw [HJ.out]; exact HF.out.1
end Go.Proofs.Ytokcffkffcfolaa.Rh
