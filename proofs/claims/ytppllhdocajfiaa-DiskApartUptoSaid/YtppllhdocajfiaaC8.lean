/- Pending. -/
import Derived.Test.YtppllhdocajfiaaC7
set_option linter.unusedSimpArgs false
set_option linter.unusedVariables false
namespace Go.Proofs.Ytppllhdocajfiaa
open Go.RowKit
attribute [local go_sem ↓] ex_load94 ex_store94 ex_load102 ex_store102
attribute [local go_sem] store102
theorem Try.info3 : (Try.prog.info? 3).map (fun i => (i.zero, i.size, i.bytes)) = some (some (.int .i64 0), 1, 8) := by kernel_rfl

section
variable {w : World} {b c : Nat} {D : Dk}
def pends (l : List (Nat × List UInt8)) : List Value := l.map fun p => .int .i64 (p.1 : Int)

set_option maxHeartbeats 1000000 in
set_option maxRecDepth 100000 in
theorem Pending_any (h : DiskAt w b c D) (hlen : D.cache.length ≤ 1073741824) :
    Calls Try.prog 24 #[.pointer (some ⟨b, 0, none⟩)] w fun e w' => ∃ v, e = .returned v ∧ w'.ownsRow w.heap.size 3 1 v D.cache.length (pends D.cache) ∧ Fr No w w' := by
  obtain ⟨i0, hi, hz0, hz1, hz2⟩ := info_parts Try.info3
  obtain ⟨cv, hcv, hca⟩ := h.cache
  obtain ⟨a, cap, rfl⟩ : ∃ a cap, cv = .slice a D.cache.length cap := by
    rcases hca with ⟨rfl, h0⟩ | ⟨cap, cur, rfl, _⟩
    · exact ⟨none, 0, by rw [h0]; rfl⟩
    · exact ⟨_, _, rfl⟩
  obtain ⟨n, hn⟩ : ∃ n, Hid (D.cache.length = n) := ⟨_, Lib.hid rfl⟩
  rw [hn.out] at hcv hlen
  have H := Lib.hid h
  have HCA := Lib.hid hca
  clear h hca
  go_enter Try.func24, Try.ntmps24
  go_wp2
  go_loopg [3, 11] n (fun m v i wr => ∃ j : Nat, j ≤ n ∧ m + j = n ∧ i = .int .i64 j ∧ Hid (wr.ownsRow w.heap.size 3 1 v j (pends (D.cache.take j)) ∧ Fr No w wr))
  case atStart => exact ⟨0, by omega, by omega, rfl, Lib.hid ⟨by simpa [pends] using World.ownsRow_nil w w.heap.size 3 1, Fr.refl _ _⟩⟩
  case round =>
    obtain ⟨j, hj, hm, rfl, HR⟩ := hrel
    by_cases hlt : j < n
    · obtain ⟨hown, hf⟩ := HR.out
      have hjl : j < D.cache.length := by have := hn.out; omega
      obtain ⟨p, hp⟩ : ∃ p, D.cache[j]? = some p := ⟨_, List.getElem?_eq_getElem hjl⟩
      have hd := H.out.keep hf id id
      have hca := HCA.out.keep (hf.block c H.out.lt.2 id)
      obtain ⟨hcb, ⟨cap', hcv', _⟩, hseg⟩ := hca.seg H.out.ok.cache hp
      obtain ⟨rfl, rfl⟩ : a = some ⟨c, 0, none⟩ ∧ cap = cap' := by simpa using hcv'
      have hpok := H.out.ok.cache p (List.mem_of_getElem? hp)
      have htake : D.cache.take (j + 1) = D.cache.take j ++ [p] := by rw [List.take_add_one, hp]; rfl
      obtain ⟨s, X⟩ := p
      simp only at hpok
      obtain ⟨S, hS⟩ : ∃ S, Hid (S = X.map bv) := ⟨_, Lib.hid rfl⟩
      have hpc : pcells (s, X) = .int .i64 s :: S := by rw [hS.out]; rfl
      rw [hpc] at hseg
      have hSl : S.length = 128 := by rw [hS.out]; simpa using hpok.2
      have hL1 : OneL (.int .i64 s :: S) := by rw [← hpc]; exact pcells_one _
      have hload1 := load102 hseg (by simp [hSl])
      have HT := Lib.hid htake
      have HF := Lib.hid hf
      have HO := Lib.hid hown
      clear hd hca hpok hp hcv' hcv hseg hpc htake hf hown
      obtain ⟨u3', hu3⟩ : ∃ u, u = u3 := ⟨_, rfl⟩
      subst hu3
      go_wp2_with (with_reducible show wpList _ _ _ (Oper.mk (some 19) _ _ _ _ _ :: _) _ _; refine Stop.mk ?_)
      refine Stop.go ?_
      refine wpList_append_lies _ rfl (.tmp 15) (.tmp 18) 45 rfl w.heap.size 3 i0 (.int .i64 0) 1 8 Try.underlying45 hi hz0 hz1 hz2 rfl (by omega) u3' j (pends (D.cache.take j)) rfl ((HO.out.alloc _).alloc _) ⟨wr.heap.size + 1, 0, none⟩ 1 1 [.int .i64 s] rfl rfl ?news ?one (by omega) (by unfold maxLen; omega) (by omega) (by have := HF.out.size; simp; omega) (wr.heap.size + 2) (by simp) ?_
      case news => exact World.news_of_block (cs := #[.int .i64 s]) (t := 3) (fr := (0, 0)) (by have := heap_alloc_new (wr.alloc (.cells (Value.int .i64 s :: S).toArray 102)) (.cells #[.int .i64 s] 3); simpa using this)
      case one => intro v hv; simp at hv; subst hv; rfl
      intro g cap2 w3 hown3 hgrow hat hlt3
      have HH := Lib.hid (And.intro hown3 hgrow)
      clear hown3 hgrow hat hlt3
      go_wp2
      go_roundg (n - (j + 1))
      case rel =>
        refine ⟨j + 1, by omega, by omega, by go_num, Lib.hid ⟨?_, ?_⟩⟩
        · have := HH.out.1
          rw [HT.out]
          simpa [pends] using this
        · refine Fr.grown ((HF.out.alloc _).alloc _) HH.out.2 ?_
          intro k hk
          have := HO.out.lt k hk
          exact .inr this.1
      case measure => omega
    · obtain rfl : n = j := by omega
      go_wp2
      go_ret
      obtain ⟨hown, hf⟩ := HR.out
      rw [List.take_of_length_le (by have := hn.out; omega)] at hown
      exact ⟨_, rfl, by rw [hn.out]; exact hown, hf⟩
end
end Go.Proofs.Ytppllhdocajfiaa
