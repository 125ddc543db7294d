/-
  The document's emit, of every tree.
-/
import Derived.Test.YtokcffkffcfolaaRjG
namespace Go.Proofs.Ytokcffkffcfolaa.Rh
open Go Go.RowKit Go.Proofs.Ytokcffkffcfolaa.Rg

set_option maxRecDepth 100000 in
set_option maxHeartbeats 8000000 in
theorem emit_alt0 : EmitC (.node 2 .nil) := by
  intro W base v L cs hown hbase hH hlen
  obtain ⟨vk, ls, hcs, hR⟩ := hH.row
  have hX := nodeX 2 vk
  have hcs' : cs = ncl 2 vk none256 := hcs
  rw [← hcs'] at hX
  clear hcs hcs'
  obtain ⟨⟨ak, capk, rfl, hak⟩, hHl⟩ := hR
  have hec : L = L ++ (T.node 2 .nil).re.code L.length := by simp [T.re, T.all, Re.code]
  have HEc := Lib.hid hec; clear hec
  have hE := Emi.start (x := cs) hown hbase
  obtain ⟨ao, capv, rfl⟩ := own_any hown
  have hln := hX.len
  have hne := hX.ne
  have hg0 := hX.g0
  have hg1 := hX.g1
  have HX := Lib.hid hX; clear hX
  have HE := Lib.hid hE; clear hE hown hH hHl hak
  have hc1 := fun (wr : World) (v : Value) (N : Nat) (M : List Inst) (h : Emi W base cs (.slice ao L.length capv) wr v N M) => blk_cell h.box 1
  have HC1 := Lib.hid hc1; clear hc1
  go_enter Try.func37, Try.ntmps37
  go_wp2_with fail
  go_loopw [0, 7, 8] (fun vp vq i wr => vp = .slice ao L.length capv ∧ vq = .slice none 0 0 ∧ i = .int .i64 0 ∧ Emi W base cs (.slice ao L.length capv) wr vp L.length L) (fun _ _ i _ => 0)
  case atStart => exact ⟨rfl, rfl, rfl, HE.out⟩
  case round =>
    obtain ⟨rfl, rfl, rfl, hE⟩ := hrel
    have hc1 := HC1.out _ _ _ _ hE
    have HEr := Lib.hid hE; clear hE
    have hl0 : T.nil.len = 0 := rfl
    obtain ⟨wo, hwo⟩ : ∃ wo : World, wo = wr := ⟨_, rfl⟩
    subst hwo
    go_wp2_with fail
    clear hc1
    go_loopw [10] (fun i wr => i = .int .i64 0 ∧ Emi W base cs (.slice ao L.length capv) wr (.slice ao L.length capv) L.length L) (fun i _ => 0)
    case atStart => exact ⟨rfl, HEr.out⟩
    case round =>
      obtain ⟨rfl, hE⟩ := hrel
      have HA := Lib.hid hE; clear hE
      go_wp2_with fail
      go_ret
      refine ⟨_, rfl, ?_⟩
      exact HA.out.done HEc.out

theorem T.kids_size : ∀ {l n : T}, n ∈ l.kids → SizeOf.sizeOf n < SizeOf.sizeOf l
  | .snoc l m, n, h => by
    rw [T.kids, List.mem_append, List.mem_singleton] at h
    rcases h with h | rfl
    · have := T.kids_size h; simp only [T.snoc.sizeOf_spec]; omega
    · simp only [T.snoc.sizeOf_spec]; omega
  | .nil, _, h => by cases h
  | .set _, _, h => by cases h
  | .node _ _, _, h => by cases h
theorem one_kid {l : T} (hl : l.isL) (h1 : l.len = 1) : ∃ n, l = .snoc .nil n ∧ n.isN := by
  cases l with
  | snoc l n =>
    rw [T.isL] at hl
    cases l with
    | nil => exact ⟨n, rfl, hl.2⟩
    | snoc l m => simp [T.len] at h1
    | set S => rw [T.isL] at hl; exact hl.1.elim
    | node k l => rw [T.isL] at hl; exact hl.1.elim
  | nil => simp [T.len] at h1
  | set S => rw [T.isL] at hl; exact hl.elim
  | node k l => rw [T.isL] at hl; exact hl.elim
theorem emit_all : ∀ (N : Nat) (t : T), SizeOf.sizeOf t ≤ N → t.isN → EmitC t
  | 0, t, h, _ => by cases t <;> simp at h
  | N + 1, .set S, _, _ => emit_set S
  | N + 1, .node k l, hs, h => by
    simp only [T.node.sizeOf_spec] at hs
    rw [T.isN] at h
    rcases h with ⟨hk, hl, hlen⟩ | ⟨hk, hl, h1⟩
    · have hn : ∀ n ∈ l.kids, EmitC n := fun n hn => emit_all N n (by have := T.kids_size hn; omega) (T.kids_isN hl n hn)
      rcases hk with rfl | rfl
      · exact emit_cat l hl hlen hn
      · cases l with
        | snoc l n => exact emit_alt l n hl hlen hn
        | nil => exact emit_alt0
        | set S => rw [T.isL] at hl; exact hl.elim
        | node k l => rw [T.isL] at hl; exact hl.elim
    · obtain ⟨n, rfl, hnN⟩ := one_kid hl h1
      have hn : EmitC n := emit_all N n (by simp only [T.snoc.sizeOf_spec] at hs; omega) hnN
      rcases hk with rfl | rfl | rfl
      · exact emit_star n hn hnN
      · exact emit_plus n hn hnN
      · exact emit_opt n hn hnN
  | N + 1, .nil, _, h => by rw [T.isN] at h; exact h.elim
  | N + 1, .snoc _ _, _, h => by rw [T.isN] at h; exact h.elim
theorem emit_calls (t : T) (h : t.isN) : EmitC t := emit_all _ t (Nat.le_refl _) h
end Go.Proofs.Ytokcffkffcfolaa.Rh
