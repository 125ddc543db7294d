/-
  The document's emit: one behind the other.
-/
import Derived.Test.YtokcffkffcfolaaRjD
namespace Go.Proofs.Ytokcffkffcfolaa.Rh
open Go Go.RowKit Go.Proofs.Ytokcffkffcfolaa.Rg

/-- The kids' row as the walk reads it. -/
structure Row (W : World) (base : Nat) (v : Value) (l : T) (ls : List Value) : Prop where
  val : ∃ ak capk, v = .slice ak l.len capk ∧ (0 < l.len → ∃ b, ak = some ⟨b, 0, none⟩ ∧ b < base ∧ W.rangeAt b 0 ls)
  held : Held W (fun b => b < base) l ls
theorem Held.row {W : World} {base k : Nat} {l : T} {cs : List Value} (h : Held W (fun b => b < base) (.node k l) cs) : ∃ v ls, cs = ncl k v none256 ∧ Row W base v l ls := by
  obtain ⟨v, ls, hc, hl, hK⟩ := h
  refine ⟨v, ls, hc, ⟨?_, hl⟩⟩
  rcases hK with ⟨h0, rfl⟩ | ⟨h0, _, b, cap, hb, rfl, hr⟩
  · exact ⟨none, 0, by rw [h0]; rfl, fun h => by omega⟩
  · exact ⟨_, cap, rfl, fun _ => ⟨b, rfl, hb, hr⟩⟩
theorem range_kid {W : World} {b i : Nat} {ls c : List Value} (hr : W.rangeAt b 0 ls) (hc : c.length = 258) (h : ∀ j, j < 258 → ls[i * 258 + j]? = c[j]?) : W.rangeAt b (i * 258) c := fun j u hj => by
  have hlt : j < 258 := by have := (List.getElem?_eq_some_iff.1 hj).1; omega
  have := hr (i * 258 + j) u (by rw [h j hlt]; exact hj)
  rwa [Nat.zero_add] at this
theorem lenL_take (l : List T) (k : Nat) : lenL (l.take k) ≤ lenL l := by
  have := lenL_app (l.take k) (l.drop k)
  rw [List.take_append_drop] at this
  omega
theorem take_one {l : List T} {k : Nat} {n : T} (h : l[k]? = some n) : l.take (k + 1) = l.take k ++ [n] := by
  obtain ⟨hlt, rfl⟩ := List.getElem?_eq_some_iff.1 h
  rw [List.take_succ_eq_append_getElem hlt]
theorem lenL_step {l : List T} {k : Nat} {n : T} (h : l[k]? = some n) : lenL (l.take (k + 1)) = lenL (l.take k) + n.re.len := by
  rw [take_one h, lenL_app]; rfl
theorem codeL_step {l : List T} {k : Nat} {n : T} (h : l[k]? = some n) (o : Nat) : codeL (l.take (k + 1)) o = codeL (l.take k) o ++ n.re.code (o + lenL (l.take k)) := by
  rw [take_one h, codeL_app]; simp [codeL]
theorem nodeX_any (k : Int) (v : Value) : ∃ x, x = ncl k v none256 ∧ NodeX x k v := ⟨_, rfl, nodeX k v⟩

set_option maxRecDepth 100000 in
set_option maxHeartbeats 8000000 in
theorem emit_cat (l : T) (hl : l.isL) (hlL : l.len ≤ 20000) (hn : ∀ n ∈ l.kids, EmitC n) : EmitC (.node 1 l) := by
  intro W base v L cs hown hbase hH hlen
  obtain ⟨vk, ls, hcs, hR⟩ := hH.row
  have hX := nodeX 1 vk
  have hcs' : cs = ncl 1 vk none256 := hcs
  rw [← hcs'] at hX
  clear hcs hcs'
  obtain ⟨⟨ak, capk, rfl, hak⟩, hHl⟩ := hR
  obtain ⟨-, hkid⟩ := Held.kid hl hHl
  have hkl := T.kids_length l hl
  have hre : (T.node 1 l).re = l.cat := by simp [T.re]
  have hcc := fun o => cat_code l o hl
  rw [hre, (hcc 0).2] at hlen
  have hec : L ++ (T.node 1 l).re.code L.length = L ++ codeL l.kids L.length := by rw [hre, (hcc _).1]
  have HEc := Lib.hid hec; clear hec hre hcc
  have hE := Emi.start (x := cs) hown hbase
  obtain ⟨ao, capv, rfl⟩ := own_any hown
  have hln := hX.len
  have hne := hX.ne
  have hg0 := hX.g0
  have hg1 := hX.g1
  have HX := Lib.hid hX; clear hX
  have HE := Lib.hid hE; clear hE hown hH hHl
  have HK := Lib.hid hkid; clear hkid
  have HA := Lib.hid hak; clear hak
  have HN := Lib.hid hn; clear hn
  have HL := Lib.hid hkl; clear hkl
  have hc1 := fun (wr : World) (v : Value) (N : Nat) (M : List Inst) (h : Emi W base cs (.slice ao L.length capv) wr v N M) => blk_cell h.box 1
  have HC1 := Lib.hid hc1; clear hc1
  go_enter Try.func37, Try.ntmps37
  go_wp2_with fail
  go_loopw [0, 6] (fun vp i wr => ∃ (k : Nat) (ap : Option Addr) (capp : Nat), k ≤ l.len ∧ i = .int .i64 (k : Int) ∧ vp = .slice ap (L.length + lenL (l.kids.take k)) capp ∧ Emi W base cs (.slice ao L.length capv) wr vp (L.length + lenL (l.kids.take k)) (L ++ codeL (l.kids.take k) L.length)) (fun _ i _ => l.len - (intOf i).toNat)
  case atStart => exact ⟨0, ao, capv, Nat.zero_le _, rfl, rfl, by simpa [codeL, lenL] using HE.out⟩
  case round =>
    obtain ⟨k, ap, capp, hk, rfl, rfl, hE⟩ := hrel
    have hc1 := HC1.out _ _ _ _ hE
    have HEr := Lib.hid hE; clear hE
    by_cases hlt : k < l.len
    · obtain ⟨b, rfl, hb, hr⟩ := HA.out (by omega)
      obtain ⟨n, hnk⟩ : ∃ n, l.kids[k]? = some n := ⟨_, List.getElem?_eq_getElem (by rw [HL.out]; exact hlt)⟩
      obtain ⟨c, hcl, hHc, hcj⟩ := HK.out k n hnk
      have hnE := HN.out n (List.mem_of_getElem? hnk)
      have hs1 := lenL_step hnk
      have hs2 := codeL_step hnk L.length
      have hs3 := lenL_take l.kids (k + 1)
      have hb4 : L.length + lenL (l.kids.take k) + n.re.len ≤ 100000 := by omega
      have hrk := HEr.out.range hb (range_kid hr hcl hcj)
      have HRk := Lib.hid hrk; clear hrk hr
      have HS := Lib.hid (And.intro hs1 hs2); clear hs1 hs2 hs3
      have HCj := Lib.hid hcj; clear hcj
      have HHc := Lib.hid hHc; clear hHc
      have HNe := Lib.hid hnE; clear hnE
      have HNk := Lib.hid hnk; clear hnk
      have hbi : (Try.prog.info? 38).map (·.size) = some c.length := by rw [hcl]; exact nodeSize
      have HBi := Lib.hid hbi; clear hbi
      have HCl := Lib.hid hcl; clear hcl
      obtain ⟨Nk, hNk⟩ : ∃ Nk, Nk = L.length + lenL (l.kids.take k) := ⟨_, rfl⟩
      go_wp2_with fail
      refine wp_load_mid 38 (.tmp 36) rfl b (k * 258) rfl c _ HRk.out Try.underlying38 rfl HBi.out ?_
      go_wp2_with fail
      (with_reducible refine (HNe.out.run HEr.out HHc.out hb4).mono ?_)
      rintro q w2 ⟨a2, cap2, rfl, hE2⟩
      have hE3 : Emi W base cs (.slice ao L.length capv) w2 (.slice a2 (L.length + lenL (l.kids.take (k + 1))) cap2) (L.length + lenL (l.kids.take (k + 1))) (L ++ codeL (l.kids.take (k + 1)) L.length) := by
        rw [HS.out.1, HS.out.2, ← Nat.add_assoc, ← List.append_assoc]; exact hE2
      have hv4 : Value.slice a2 (L.length + lenL (l.kids.take k) + n.re.len) cap2 = .slice a2 (L.length + lenL (l.kids.take (k + 1))) cap2 := by rw [HS.out.1, Nat.add_assoc]
      have HE3 := Lib.hid hE3; clear hE3 hE2
      have HV3 := Lib.hid hv4; clear hv4
      go_wp2_with fail
      go_roundw
      case rel => exact ⟨k + 1, a2, cap2, by omega, by go_num, HV3.out, HV3.out ▸ HE3.out⟩
      case measure => (simp [intOf] <;> omega)
    · have hke : k = l.len := by omega
      have HKe := Lib.hid hke; clear hke
      go_wp2_with fail
      go_ret
      refine ⟨_, rfl, ?_⟩
      refine HEr.out.done ?_
      rw [HEc.out, HKe.out, ← HL.out, List.take_length]
end Go.Proofs.Ytokcffkffcfolaa.Rh
