import Derived.Test.YtjohdighlhoofaaDoorS8g2
set_option linter.unusedVariables false
set_option linter.unusedSimpArgs false
namespace Go.Ab.S8
variable {α:Type} {h:H}
theorem g_st {q:Nat} {v0 v1 v2:V} (hq:h.get q = some (.cells [v0, v1, v2] true)) (o p m:Sl) (K:M α) :
  (st1 ((⟨q, 0⟩:Ad).add 0) (.slice o) <| st1 ((⟨q, 0⟩:Ad).add 1) (.slice p) <| st1 ((⟨q, 0⟩:Ad).add 2) (.slice m) K) h = K (h.put q (some (gC o p m))):=by
 have pp:∀ (h:H) (i:Nat) (a b:Option Blk), (h.put i a).put i b = h.put i b:=zfw
 simp only [jp, Nat.zero_add]
 rw [zav (a:=⟨q, 0⟩) hq rfl (by simp), zav (a:=⟨q, 1⟩) (by rw [jy]) rfl (by simp), pp, zav (a:=⟨q, 2⟩) (by rw [jy]) rfl (by simp), pp]
 rfl
theorem g_new (o p m:Sl) (K:Ad->M α) :
  (new [.slice Sl.nil, .slice Sl.nil, .slice Sl.nil] fun x=>st1 (x.add 0) (.slice o) <| st1 (x.add 1) (.slice p) <| st1 (x.add 2) (.slice m) (K x)) h = K ⟨h.next, 0⟩ (h.push (gC o p m)):=by
 rw [zu rfl, g_st (jt _), zjq]
end Go.Ab.S8
