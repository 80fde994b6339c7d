import Derived.Test.YtjohdighlhoofaaDoorS8ps
import Derived.Test.YtjohdighlhoofaaDoorS8g3
import Derived.KernelRfl
set_option linter.unusedVariables false
set_option linter.unusedSimpArgs false
namespace Go.Ab.S8
variable {α:Type} {h:H}
def adI (s:Sl):List Nat:=match s.ad with | some a=>[a.id] | none=>[]
theorem yp {s:Sl} {i:Nat}:i ∈ adI s ↔ ∃ a, s.ad = some a ∧ a.id = i:=by
 unfold adI
 cases h:s.ad with
 | none=>simp
 | some a=>simp [eq_comm]
def idsG (o p m:Sl) (rows:List Sl):List Nat:=adI o ++ (adI p ++ (adI m ++ rows.flatMap adI))
structure BO (h:H) (b q3:Nat) (o p m:Sl) (rows:List Sl) (g:Gm):Prop where
 lt:q3 < b
 nx:b≤h.next
 blk:h.get q3 = some (gC o p m)
 ao:App h o 1 (g.ow.flatMap cI)
 ap:App h p 1 (g.pr.flatMap cI)
 am:App h m 1 (rows.flatMap cSl)
 len:rows.length = g.mv.length
 row:∀ (i:Nat) (r:Sl) (l:List Int), rows[i]? = some r->g.mv[i]? = some l->App h r 1 (l.flatMap cI)
 old:∀ i ∈ idsG o p m rows, b≤i
 nd:(idsG o p m rows).Nodup
 ls:∀ s, s = o ∨ s = p ∨ s = m ∨ s ∈ rows->s.loose = none->s.ad = none
section
variable {b q3:Nat} {o p m:Sl} {rows:List Sl} {g:Gm}
theorem mem_o {o p m:Sl} {rows:List Sl} {a:Ad} (h:o.ad = some a):a.id ∈ idsG o p m rows:=by simp only [idsG, List.mem_append, yp]; exact .inl ⟨a, h, rfl⟩
theorem mem_p {o p m:Sl} {rows:List Sl} {a:Ad} (h:p.ad = some a):a.id ∈ idsG o p m rows:=by simp only [idsG, List.mem_append, yp]; exact .inr (.inl ⟨a, h, rfl⟩)
theorem mem_m {o p m:Sl} {rows:List Sl} {a:Ad} (h:m.ad = some a):a.id ∈ idsG o p m rows:=by simp only [idsG, List.mem_append, yp]; exact .inr (.inr (.inl ⟨a, h, rfl⟩))
theorem mem_r {o p m:Sl} {rows:List Sl} {r:Sl} {a:Ad} (hr:r ∈ rows) (h:r.ad = some a):a.id ∈ idsG o p m rows:=by
 simp only [idsG, List.mem_append, List.mem_flatMap, yp]; exact .inr (.inr (.inr ⟨r, hr, a, h, rfl⟩))
theorem BO.mr (B:BO h b q3 o p m rows g):MvR h m g.mv rows:=⟨B.am.rd, B.len, fun i r l h1 h2=>(B.row i r l h1 h2).rd⟩
theorem BO.gm (B:BO h b q3 o p m rows g):GmR h o p m g:=⟨B.ao.rd, B.ap.rd, rows, B.mr⟩
theorem BO.lti (B:BO h b q3 o p m rows g):∀ i ∈ idsG o p m rows, i < h.next:=by
 intro i hi
 simp only [idsG, List.mem_append, List.mem_flatMap, yp] at hi
 rcases hi with ⟨a, ha, rfl⟩ | ⟨a, ha, rfl⟩ | ⟨a, ha, rfl⟩ | ⟨r, hr, a, ha, rfl⟩
 ·exact (B.ao.rd.row a ha).2
 ·exact (B.ap.rd.row a ha).2
 ·exact (B.am.rd.row a ha).2
 ·obtain ⟨j, hj⟩:=List.getElem?_of_mem hr
  have hlt:j < g.mv.length:=by rw [← B.len]; exact zbf hj
  exact ((B.row j r g.mv[j] hj (List.getElem?_eq_getElem hlt)).rd.row a ha).2
theorem BO.keep {h':H} (B:BO h b q3 o p m rows g) (hn:h.next≤h'.next) (hq:h'.get q3 = h.get q3) (hg:∀ i ∈ idsG o p m rows, h'.get i = h.get i):BO h' b q3 o p m rows g:=
 ⟨B.lt, Nat.le_trans B.nx hn, by rw [hq]; exact B.blk, B.ao.keep hn fun a ha=>hg _ (mem_o ha), B.ap.keep hn fun a ha=>hg _ (mem_p ha), B.am.keep hn fun a ha=>hg _ (mem_m ha), B.len,
  fun i r l h1 h2=>(B.row i r l h1 h2).keep hn fun a ha=>hg _ (mem_r (List.mem_of_getElem? h1) ha), B.old, B.nd, B.ls⟩
theorem zfc {n l c e:Nat}:adI ⟨some ⟨n, 0⟩, l, c, some e⟩ = [n]:=rfl
theorem flat_add (l:List Int) (v:Int):l.flatMap cI ++ [.int .i64 v] = (l ++ [v]).flatMap cI:=by simp [cI]
theorem app_one {s x:Sl} {l:List Int} {v:Int} (A:App h s 1 (l.flatMap cI)) (hx:Rd h x 1 [.int .i64 v]) (hl:l.length≤17592186000000) :
  ∃ h', (∀ (α:Type) (K:Sl->M α), jk s 1 8 x K h = K ⟨some ⟨h.next, 0⟩, s.len + 1, s.len + 1, some 1⟩ h') ∧ App h' ⟨some ⟨h.next, 0⟩, s.len + 1, s.len + 1, some 1⟩ 1 ((l ++ [v]).flatMap cI) ∧ h'.next = h.next + 1 ∧ (∀ i, i < h.next->i ∉ adI s->h'.get i = h.get i):=by
 have hm:=ilen A.rd
 have hxl:x.len = 1:=by have:=hx.len; simpa using this.symm
 obtain ⟨h', e, A', _, kp⟩:=zhn (bytes:=8) A hx (by omega) (by decide) (by rw [hxl, hm]; omega)
 rw [hxl, flat_add] at A'
 rw [hxl] at e
 exact ⟨h', e, A', kp.1, fun i hi hn=>kp.2 i hi fun _ a ha he=>hn (yp.2 ⟨a, ha, he.symm⟩)⟩
theorem app_slc {m x s:Sl} {rows:List Sl} (A:App h m 1 (rows.flatMap cSl)) (hx:Rd h x 1 [.slice s]) (hl:rows.length≤5864062014805) :
  ∃ h', (∀ (α:Type) (K:Sl->M α), jk m 1 24 x K h = K ⟨some ⟨h.next, 0⟩, m.len + 1, m.len + 1, some 1⟩ h') ∧ App h' ⟨some ⟨h.next, 0⟩, m.len + 1, m.len + 1, some 1⟩ 1 ((rows ++ [s]).flatMap cSl) ∧ h'.next = h.next + 1 ∧ (∀ i, i < h.next->i ∉ adI m->h'.get i = h.get i):=by
 have hm:=zex (c:=cSl) (fun _=>rfl) A.rd
 have hxl:x.len = 1:=by have:=hx.len; simpa using this.symm
 obtain ⟨h', e, A', _, kp⟩:=zhn (bytes:=24) A hx (by omega) (by decide) (by rw [hxl, hm]; omega)
 rw [hxl, show rows.flatMap cSl ++ [.slice s] = (rows ++ [s]).flatMap cSl by simp [cSl]] at A'
 rw [hxl] at e
 exact ⟨h', e, A', kp.1, fun i hi hn=>kp.2 i hi fun _ a ha he=>hn (yp.2 ⟨a, ha, he.symm⟩)⟩
theorem nodup_new {o p m s:Sl} {rows:List Sl} {n:Nat} (hnd:(idsG o p m rows).Nodup) (hlt:∀ i ∈ idsG o p m rows, i < n) (hs:∀ i ∈ adI s, i < n ∧ i ∉ idsG o p m rows) {c1 c2 c3:Nat} :
  (idsG ⟨some ⟨n, 0⟩, c1, c1, some 1⟩ ⟨some ⟨n + 1, 0⟩, c2, c2, some 1⟩ ⟨some ⟨n + 2, 0⟩, c3, c3, some 1⟩ (rows ++ [s])).Nodup:=by
 have hr:(rows.flatMap adI).Nodup:=by
  unfold idsG at hnd
  exact (List.nodup_append.1 (List.nodup_append.1 (List.nodup_append.1 hnd).2.1).2.1).2.1
 have hsn:(adI s).Nodup:=by unfold adI; cases s.ad <;> simp
 have hrl:∀ i ∈ rows.flatMap adI, i < n:=fun i hi=>hlt i (by simp only [idsG, List.mem_append]; exact .inr (.inr (.inr hi)))
 have hall:∀ i ∈ rows.flatMap adI ++ adI s, i < n:=fun i hi=>by
  rcases List.mem_append.1 hi with h | h
  ·exact hrl i h
  ·exact (hs i h).1
 have hra:(rows.flatMap adI ++ adI s).Nodup:=List.nodup_append.2 ⟨hr, hsn, fun i hi j hj e=>by
  subst e
  exact (hs i hj).2 (by simp only [idsG, List.mem_append]; exact .inr (.inr (.inr hi)))⟩
 unfold idsG
 rw [zfc, zfc, zfc, List.flatMap_append]
 simp only [List.flatMap_cons, List.flatMap_nil, List.append_nil, List.cons_append, List.nil_append, List.nodup_cons, List.mem_cons]
 refine ⟨fun hh=>?_, fun hh=>?_, fun hh=>?_, hra⟩
 ·rcases hh with h | h | h
  ·omega
  ·omega
  ·have:=hall _ h; omega
 ·rcases hh with h | h
  ·omega
  ·have:=hall _ h; omega
 ·have:=hall _ hh; omega
theorem add_run (B:BO h b q3 o p m rows g) (hlen:g.ow.length≤1000000 ∧ g.pr.length≤1000000 ∧ g.mv.length≤1000000) {s:Sl} {l:List Int} (A:App h s 1 (l.flatMap cI)) (hs:∀ i ∈ adI s, b≤i ∧ i ∉ idsG o p m rows) (hls:s.loose = none->s.ad = none) (v w:Int) :
  ∃ h' o' p' m', (∀ (α:Type) (K:M α), (ldS (((⟨q3, 0⟩:Ad).add 0).add 0) fun x13=>new [.int .i64 v] fun r14=>ldS (((⟨q3, 0⟩:Ad).add 1).add 0) fun x15=>new [.int .i64 w] fun r16=>ldS (((⟨q3, 0⟩:Ad).add 2).add 0) fun x17=>new [.slice s] fun r18=>
    jk x13 1 8 ⟨some r14, 1, 1, none⟩ fun x19=>ldS (((⟨q3, 0⟩:Ad).add 1).add 0) fun y20=>need (decide (x15 = y20)) <| ldS (((⟨q3, 0⟩:Ad).add 2).add 0) fun y21=>need (decide (x17 = y21)) <| jk x15 1 8 ⟨some r16, 1, 1, none⟩ fun x22=>
    ldS (((⟨q3, 0⟩:Ad).add 2).add 0) fun y23=>need (decide (x17 = y23)) <| jk x17 1 24 ⟨some r18, 1, 1, none⟩ fun x24=>st1 (((⟨q3, 0⟩:Ad).add 0).add 0) (.slice x19) <| st1 (((⟨q3, 0⟩:Ad).add 1).add 0) (.slice x22) <| st1 (((⟨q3, 0⟩:Ad).add 2).add 0) (.slice x24) K) h = K h') ∧
   BO h' b q3 o' p' m' (rows ++ [s]) (g.add ⟨v, w, l⟩) ∧ h.next≤h'.next ∧ (∀ i, i < h.next->i ≠ q3->i ∉ idsG o p m rows->h'.get i = h.get i) ∧ (∀ i ∈ adI o' ++ (adI p' ++ adI m'), h.next≤i):=by
 have hq:=B.blk
 have hql:q3 < h.next:=Nat.lt_of_lt_of_le B.lt B.nx
 have hlt:=B.lti
 have hq3:∀ {i}, i ∈ idsG o p m rows->i ≠ q3:=fun hi=>by have:=B.old _ hi; have:=B.lt; omega
 let h3:=((h.push (.cells [.int .i64 v] true)).push (.cells [.int .i64 w] true)).push (.cells [.slice s] true)
 have x3:Ext h h3:=(((Ext.refl h).push _).push _).push _
 have n3:h3.next = h.next + 3:=rfl
 have b0:h3.get h.next = some (.cells [.int .i64 v] true):=by simp only [h3, zt, zk]; (repeat rw [if_neg (by omega)]); simp
 have b1:h3.get (h.next + 1) = some (.cells [.int .i64 w] true):=by simp only [h3, zt, zk]; (repeat rw [if_neg (by omega)]); simp
 have b2:h3.get (h.next + 2) = some (.cells [.slice s] true):=by simp only [h3, zt, zk]; simp
 -- the three appends
 obtain ⟨h4, e4, A4, n4, k4⟩:=app_one (B.ao.ext x3) (zim b0 (by omega)) (by omega)
 have io:∀ i ∈ adI o, i ∈ idsG o p m rows:=fun i hi=>by simp only [idsG, List.mem_append]; exact .inl hi
 have ip:∀ i ∈ adI p, i ∈ idsG o p m rows:=fun i hi=>by simp only [idsG, List.mem_append]; exact .inr (.inl hi)
 have im:∀ i ∈ adI m, i ∈ idsG o p m rows:=fun i hi=>by simp only [idsG, List.mem_append]; exact .inr (.inr (.inl hi))
 have hno:∀ i, h.next≤i->i ∉ adI o:=fun i hi hh=>by have:=hlt i (io i hh); omega
 have hnp:∀ i, h.next≤i->i ∉ adI p:=fun i hi hh=>by have:=hlt i (ip i hh); omega
 have hnm:∀ i, h.next≤i->i ∉ adI m:=fun i hi hh=>by have:=hlt i (im i hh); omega
 have nd:=B.nd
 unfold idsG at nd
 obtain ⟨nd1, nd2, nd3⟩:=List.nodup_append.1 nd
 obtain ⟨nd4, nd5, nd6⟩:=List.nodup_append.1 nd2
 obtain ⟨nd7, nd8, nd9⟩:=List.nodup_append.1 nd5
 have dop:∀ i ∈ adI p, i ∉ adI o:=fun i hi hh=>nd3 i hh i (List.mem_append_left _ hi) rfl
 have dom:∀ i ∈ adI m, i ∉ adI o:=fun i hi hh=>nd3 i hh i (List.mem_append_right _ (List.mem_append_left _ hi)) rfl
 have dpm:∀ i ∈ adI m, i ∉ adI p:=fun i hi hh=>nd6 i hh i (List.mem_append_left _ hi) rfl
 have kO:∀ i, i < h.next->i ∉ adI o->h4.get i = h.get i:=fun i hi hn=>by rw [k4 i (by omega) hn, x3.2 i hi]
 have hq4:h4.get q3 = some (gC o p m):=by rw [kO q3 hql (fun hh=>hq3 (io _ hh) rfl)]; exact hq
 have A5:App h4 p 1 (g.pr.flatMap cI):=B.ap.keep (by omega) fun a ha=>kO _ ((B.ap.rd.row a ha).2) (dop _ (yp.2 ⟨a, ha, rfl⟩))
 obtain ⟨h5, e5, A5', n5, k5⟩:=app_one A5 (zim (q:=h.next + 1) (v:=.int .i64 w) (by rw [k4 _ (by omega) (hno _ (by omega))]; exact b1) (by omega)) (by omega)
 have kP:∀ i, i < h.next->i ∉ adI o->i ∉ adI p->h5.get i = h.get i:=fun i hi hn hp=>by rw [k5 i (by omega) hp, kO i hi hn]
 have hq5:h5.get q3 = some (gC o p m):=by rw [kP q3 hql (fun hh=>hq3 (io _ hh) rfl) (fun hh=>hq3 (ip _ hh) rfl)]; exact hq
 have A6:App h5 m 1 (rows.flatMap cSl):=B.am.keep (by omega) fun a ha=>kP _ ((B.am.rd.row a ha).2) (dom _ (yp.2 ⟨a, ha, rfl⟩)) (dpm _ (yp.2 ⟨a, ha, rfl⟩))
 obtain ⟨h6, e6, A6', n6, k6⟩:=app_slc A6 (zim (q:=h.next + 2) (v:=.slice s) (by rw [k5 _ (by omega) (hnp _ (by omega)), k4 _ (by omega) (hno _ (by omega))]; exact b2) (by omega)) (by rw [B.len]; omega)
 have kM:∀ i, i < h.next->i ∉ adI o->i ∉ adI p->i ∉ adI m->h6.get i = h.get i:=fun i hi hn hp hm=>by rw [k6 i (by omega) hm, kP i hi hn hp]
 have hq6:h6.get q3 = some (gC o p m):=by rw [kM q3 hql (fun hh=>hq3 (io _ hh) rfl) (fun hh=>hq3 (ip _ hh) rfl) (fun hh=>hq3 (im _ hh) rfl)]; exact hq
 have e34:h3.next = h.next + 3:=n3
 rw [e34] at e4 A4
 rw [show h4.next = h.next + 4 by omega] at e5 A5'
 rw [show h5.next = h.next + 5 by omega] at e6 A6'
 -- the game's own block
 have g7:∀ i, i ≠ q3->(h6.put q3 (some (gC ⟨some ⟨h.next + 3, 0⟩, o.len + 1, o.len + 1, some 1⟩ ⟨some ⟨h.next + 4, 0⟩, p.len + 1, p.len + 1, some 1⟩ ⟨some ⟨h.next + 5, 0⟩, m.len + 1, m.len + 1, some 1⟩))).get i = h6.get i:=fun i hi=>by rw [zw, if_neg hi]
 have lb:=B.lt
 refine ⟨h6.put q3 (some (gC ⟨some ⟨h.next + 3, 0⟩, o.len + 1, o.len + 1, some 1⟩ ⟨some ⟨h.next + 4, 0⟩, p.len + 1, p.len + 1, some 1⟩ ⟨some ⟨h.next + 5, 0⟩, m.len + 1, m.len + 1, some 1⟩)), ⟨some ⟨h.next + 3, 0⟩, o.len + 1, o.len + 1, some 1⟩, ⟨some ⟨h.next + 4, 0⟩, p.len + 1, p.len + 1, some 1⟩, ⟨some ⟨h.next + 5, 0⟩, m.len + 1, m.len + 1, some 1⟩, fun α K=>?_, ⟨B.lt, by rw [zai]; have:=B.nx; omega, by rw [js], ?_, ?_, ?_, by simp [Gm.add, B.len], fun i r l' h1 h2=>?_, fun i hi=>?_, ?_, fun s' hs' hn=>?_⟩, by rw [zai]; omega, fun i hi hiq hin=>?_, fun i hi=>?_⟩
 ·rw [g_o hq, jc rfl, g_p (by rw [((Ext.refl h).push _).2 _ hql]; exact hq), jc rfl, g_m (by rw [(((Ext.refl h).push _).push _).2 _ hql]; exact hq), jc rfl]
  refine (e4 α _).trans ?_
  rw [g_p hq4, zq (dT rfl), g_m hq4, zq (dT rfl)]
  refine (e5 α _).trans ?_
  rw [g_m hq5, zq (dT rfl)]
  refine (e6 α _).trans ?_
  exact g_st (q:=q3) hq6 _ _ _ K
 ·have a1:App h5 _ 1 ((g.ow ++ [v]).flatMap cI):=A4.keep (h':=h5) (by omega) fun a ha=>by cases ha; exact k5 _ (by show h.next + 3 < _; omega) (hnp _ (by show h.next≤h.next + 3; omega))
  have a2:App h6 _ 1 ((g.ow ++ [v]).flatMap cI):=a1.keep (h':=h6) (by omega) fun a ha=>by cases ha; exact k6 _ (by show h.next + 3 < _; omega) (hnm _ (by show h.next≤h.next + 3; omega))
  exact a2.keep (by rw [zai]; omega) fun a ha=>by cases ha; exact g7 _ (by show h.next + 3 ≠ q3; omega)
 ·have a2:App h6 _ 1 ((g.pr ++ [w]).flatMap cI):=A5'.keep (h':=h6) (by omega) fun a ha=>by cases ha; exact k6 _ (by show h.next + 4 < _; omega) (hnm _ (by show h.next≤h.next + 4; omega))
  exact a2.keep (by rw [zai]; omega) fun a ha=>by cases ha; exact g7 _ (by show h.next + 4 ≠ q3; omega)
 ·exact A6'.keep (by rw [zai]; omega) fun a ha=>g7 _ (by cases ha; show h.next + 5 ≠ q3; omega)
 ·have key:App h r 1 (l'.flatMap cI) ∧ ∀ j ∈ adI r, j < h.next ∧ j ∉ adI o ∧ j ∉ adI p ∧ j ∉ adI m ∧ j ≠ q3:=by
   by_cases hi:i < rows.length
   ·rw [List.getElem?_append_left hi] at h1
    simp only [Gm.add] at h2
    rw [List.getElem?_append_left (by rw [← B.len]; exact hi)] at h2
    refine ⟨B.row i r l' h1 h2, fun j hj=>?_⟩
    obtain ⟨a, ha, rfl⟩:=yp.1 hj
    have hmem:a.id ∈ rows.flatMap adI:=List.mem_flatMap.2 ⟨r, List.mem_of_getElem? h1, hj⟩
    have hid:=mem_r (o:=o) (p:=p) (m:=m) (List.mem_of_getElem? h1) ha
    exact ⟨hlt _ hid, fun hh=>nd3 _ hh _ (List.mem_append_right _ (List.mem_append_right _ hmem)) rfl, fun hh=>nd6 _ hh _ (List.mem_append_right _ hmem) rfl, fun hh=>nd9 _ hh _ hmem rfl, hq3 hid⟩
   ·have hi':i = rows.length:=by have:=zbf h1; simp at this; omega
    subst hi'
    rw [List.getElem?_append_right (Nat.le_refl _), Nat.sub_self] at h1
    simp only [Gm.add] at h2
    rw [B.len, List.getElem?_append_right (Nat.le_refl _), Nat.sub_self] at h2
    cases h1; cases h2
    refine ⟨A, fun j hj=>?_⟩
    obtain ⟨a, ha, rfl⟩:=yp.1 hj
    have:=hs _ hj
    exact ⟨(A.rd.row a ha).2, fun hh=>this.2 (io _ hh), fun hh=>this.2 (ip _ hh), fun hh=>this.2 (im _ hh), by omega⟩
  exact key.1.keep (by rw [zai]; omega) fun a ha=>by
   obtain ⟨k1, k2, k3, k4', k5'⟩:=key.2 a.id (yp.2 ⟨a, ha, rfl⟩)
   rw [g7 _ k5', kM _ k1 k2 k3 k4']
 ·simp only [idsG, List.mem_append, zfc, List.mem_cons, List.not_mem_nil, or_false, List.flatMap_append, List.flatMap_cons, List.flatMap_nil, List.append_nil] at hi
  have:=B.nx
  rcases hi with h | h | h | h | h
  ·omega
  ·omega
  ·omega
  ·exact B.old i (by simp only [idsG, List.mem_append]; exact .inr (.inr (.inr h)))
  ·exact (hs i h).1
 ·exact nodup_new (n:=h.next + 3) B.nd (fun i hi=>by have:=hlt i hi; omega) fun i hi=>by
   obtain ⟨a, ha, rfl⟩:=yp.1 hi
   exact ⟨by have:=(A.rd.row a ha).2; omega, (hs _ hi).2⟩
 ·rcases hs' with rfl | rfl | rfl | hs'
  ·cases hn
  ·cases hn
  ·cases hn
  ·rcases List.mem_append.1 hs' with h' | h'
   ·exact B.ls s' (.inr (.inr (.inr h'))) hn
   ·obtain rfl:=List.mem_singleton.1 h'; exact hls hn
 ·rw [g7 _ hiq]
  exact kM i hi (fun hh=>hin (io _ hh)) (fun hh=>hin (ip _ hh)) (fun hh=>hin (im _ hh))
 ·simp only [zfc, List.mem_append, List.mem_cons, List.not_mem_nil, or_false] at hi
  omega
end
end Go.Ab.S8
namespace Go.Ab.S8
variable {α:Type} {h:H}
theorem zfj (kind:Int) (text:List UInt8) (s:St):(yv kind text s).2.l.length≤s.l.length:=by
 unfold yv
 split
 ·exact Nat.le_refl _
 split
 ·split
  ·exact Nat.le_refl _
  ·show s.l.tail.length≤_; simp
 ·rw [zfi]; exact Nat.le_refl _
theorem zdq (a b e:Int) (s:St):(numP a b e s).2.l.length≤s.l.length:=by
 unfold numP
 refine Nat.le_trans (zfj _ _ _) ?_
 split
 ·rw [zfi]; exact Nat.le_refl _
 ·exact Nat.le_refl _
theorem zdy:∀ l:List Tok, (zaz l).length≤l.length
 | []=>Nat.le_refl _
 | t :: r=>by
  rw [zaz]
  split
  ·have:=zdy r; simp; omega
  ·exact Nat.le_refl _
theorem end_le (s:St):(endP s).l.length≤s.l.length:=by
 unfold endP
 split
 ·exact Nat.le_refl _
 ·exact zfj _ _ _
theorem mvs_le (n:Int):∀ (f:Nat) (acc:List Int) (last:Int) (s:St), (mvsP n f acc last s).2.l.length≤s.l.length
 | 0, _, _, _=>Nat.le_refl _
 | f + 1, acc, last, s=>by
  rw [mvsP]
  split
  ·exact Nat.le_trans (mvs_le n f _ _ _) (zdq _ _ _ _)
  ·exact Nat.le_refl _
theorem moves_le (n:Int) (s:St):(zay n s).2.l.length≤s.l.length:=by
 unfold zay zgo
 dsimp only
 split
 ·rw [zfi]; exact mvs_le _ _ _ _ _
 ·exact mvs_le _ _ _ _ _
theorem row_le (n i:Int) (s:St):(rowP n i s).2.l.length≤s.l.length:=by
 unfold rowP
 dsimp only
 refine Nat.le_trans (end_le _) (Nat.le_trans (moves_le _ _) (Nat.le_trans (zfj _ _ _) (Nat.le_trans (zdq _ _ _ _) (Nat.le_trans (zdq _ _ _ _) (Nat.le_trans (zdq _ _ _ _) (zdy _))))))
section
variable {q q3 b:Nat}
theorem rowl_loop (k:Nat) (n:Int) (hn:0≤n ∧ n≤200) (hq:q < b) (hqq:q ≠ q3) {x0:Ad}:∀ (c j i:Nat) (g:Gm) (s:St) (h:H) (sl:Sl) (p:Option Ad) (o' p' m':Sl) (rows:List Sl), (i:Int) + c = n->c < j->(s.l.length + 20≤k ∧ s.l.length≤900000)->(g.ow.length = i ∧ g.pr.length = i ∧ g.mv.length = i) ->
   PR h q sl p s->BO h b q3 o' p' m' rows g->(∀ a, sl.ad = some a->a.id < b ∧ a.id ≠ q3)->(∀ a, p = some a->a.id ≠ q3 ∧ a.id ∉ idsG o' p' m' rows) ->
  ∃ h' sl' p₂ o₂ pp₂ m₂ rows₂, PR h' q sl' p₂ (zax n c i g s).2 ∧ BO h' b q3 o₂ pp₂ m₂ rows₂ (zax n c i g s).1 ∧ (∀ a, sl'.ad = some a->a.id < b ∧ a.id ≠ q3) ∧ (∀ a, p₂ = some a->a.id ≠ q3 ∧ a.id ∉ idsG o₂ pp₂ m₂ rows₂) ∧ (∀ a, p₂ = some a->p = some a ∨ b≤a.id) ∧ h.next≤h'.next ∧ (∀ j, j < b->j ≠ q->j ≠ q3->h'.get j = h.get j) ∧
   ∀ (α:Type) (kx:Ad->Ad->Ad->M α), qj.u4.l (k + 5) kx j x0 ⟨q, 0⟩ n ⟨q3, 0⟩ (i:Int) h = kx x0 ⟨q, 0⟩ ⟨q3, 0⟩ h':=by
 intro c
 induction c with
 | zero=>
  intro j i g s h sl p o' p' m' rows hi hj hl hg P B hsl hp
  obtain ⟨j, rfl⟩:∃ x, j = x + 1:=⟨j - 1, by omega⟩
  refine ⟨h, sl, p, o', p', m', rows, P, B, hsl, hp, fun a ha=>.inl ha, Nat.le_refl _, fun _ _ _ _=>rfl, fun α kx=>?_⟩
  rw [qj.u4.l, qj.u3.f, dF (by omega:¬ (i:Int) < n), cond_false]
 | succ c ih=>
  intro j i g s h sl p o' p' m' rows hi hj hl hg P B hsl hp
  obtain ⟨j, rfl⟩:∃ x, j = x + 1:=⟨j - 1, by omega⟩
  have hpn:=P.f.isNone
  rw [zax]
  cases hf:s.f with
  | some fe=>
   rw [if_neg (by simp)]
   refine ⟨h, sl, p, o', p', m', rows, P, B, hsl, hp, fun a ha=>.inl ha, Nat.le_refl _, fun _ _ _ _=>rfl, fun α kx=>?_⟩
   rw [qj.u4.l, qj.u3.f, dT (by omega:(i:Int) < n), cond_true, p_f P, hpn, hf]
   rfl
  | none=>
   rw [if_pos (show (none:Option (Int × Int)).isNone = true from rfl)]
   have hpnone:p = none:=by have:=P.f; rw [hf] at this; exact this
   obtain ⟨h1, sl1, p1, P1, x1, e1⟩:=zgr P (k + 3) (by omega)
   obtain ⟨h2, sl2, p2, P2, x2, e2⟩:=zft P1 (k + 1) i i 8
   obtain ⟨h3, sl3, p3, P3, x3, e3⟩:=zft P2 (k + 1) 0 1 14
   obtain ⟨h4, sl4, p4, P4, x4, e4⟩:=zft P3 (k + 1) 0 7 15
   obtain ⟨h5, sl5, p5, P5, x5, e5⟩:=zbj P4 (k + 2) 5 [58]
   have l5:(yv 5 [58] (numP 0 7 15 (numP 0 1 14 (numP i i 8 (yc s)).2).2).2).2.l.length≤s.l.length:=Nat.le_trans (zfj _ _ _) (Nat.le_trans (zdq _ _ _ _) (Nat.le_trans (zdq _ _ _ _) (Nat.le_trans (zdq _ _ _ _) (zdy _))))
   obtain ⟨h6, sl6, p6, v6, P6, x6, L6, d6, e6⟩:=moves_run P5 k n (by omega) (by omega)
   obtain ⟨h7, sl7, p7, P7, x7, e7⟩:=end_run P6 (k + 1)
   have x15:=(((x1.trans x2).trans x3).trans x4).trans x5
   have x17:=(x15.trans x6).trans x7
   have L7:=L6.ext x7.x
   have hlt:=B.lti
   have B7:BO h7 b q3 o' p' m' rows g:=B.keep x17.x.1 (x17.x.2 q3 (by have:=B.lt; have:=B.nx; omega) (Ne.symm hqq)) fun i hi=>x17.x.2 i (hlt i hi) (by have:=B.old i hi; omega)
   have hv6:∀ i ∈ adI v6, b≤i ∧ i ∉ idsG o' p' m' rows:=fun i hi=>by
    obtain ⟨a, ha, rfl⟩:=yp.1 hi
    have h1:=(L6.top a ha).1
    have h2:=x15.x.1
    have h3:=B.nx
    exact ⟨by omega, fun hh=>by have:=hlt _ hh; omega⟩
   obtain ⟨h8, o8, pp8, m8, e8, B8, n8, k8, i8⟩:=add_run B7 (by omega) L7.app hv6 L7.ls (numP 0 1 14 (numP i i 8 (yc s)).2).1 (numP 0 7 15 (numP 0 1 14 (numP i i 8 (yc s)).2).2).1
   have hsl7:∀ a, sl7.ad = some a->a.id < b ∧ a.id ≠ q3:=fun a ha=>by
    obtain ⟨a0, ha0, e⟩:=x17.s a ha
    rw [← e]; exact hsl a0 ha0
   have hp7:∀ a, p7 = some a->h.next≤a.id:=fun a ha=>by
    rcases x17.p a ha with h | h
    ·rw [hpnone] at h; cases h
    ·exact h
   have hb:=B.nx
   have hb3:=B.lt
   have hx17:=x17.x.1
   have hkeep:∀ i, (i < b ∨ (h.next≤i ∧ i < h7.next))->i ≠ q3->h8.get i = h7.get i:=fun i hi hiq=>by
    have:=x17.x.1
    refine k8 i (by omega) hiq fun hh=>?_
    have h1:=hlt i hh
    have h2:=B.old i hh
    omega
   have P8:PR h8 q sl7 p7 (rowP n i s).2:=by
    refine ⟨by omega, by rw [hkeep q (.inl hq) hqq]; exact P7.blk, P7.toks.keep n8 fun a ha=>hkeep _ (.inl (hsl7 a ha).1) (hsl7 a ha).2, P7.fine, P7.tok, ?_, P7.ends⟩
    have hfr:=P7.f
    show FR h8 q p7 (endP (zay n (yv 5 [58] (numP 0 7 15 (numP 0 1 14 (numP i i 8 (yc s)).2).2).2).2).2).f
    cases hff:(endP (zay n (yv 5 [58] (numP 0 7 15 (numP 0 1 14 (numP i i 8 (yc s)).2).2).2).2).2).f with
    | none=>rw [hff] at hfr; exact hfr
    | some fe=>
     rw [hff] at hfr
     obtain ⟨i', h1, h2, h3, h4⟩:=hfr
     exact ⟨i', h1, h2, by omega, by rw [hkeep i' (.inr ⟨hp7 _ h1, h3⟩) (by have:=hp7 _ h1; dsimp only at this; omega)]; exact h4⟩
   have hp8:∀ a, p7 = some a->a.id ≠ q3 ∧ a.id ∉ idsG o8 pp8 m8 (rows ++ [v6]):=fun a ha=>by
    have h1:=hp7 a ha
    have h2:=P7.plt a ha
    refine ⟨by omega, fun hh=>?_⟩
    unfold idsG at hh
    rw [List.flatMap_append] at hh
    simp only [List.mem_append, List.flatMap_cons, List.flatMap_nil, List.append_nil] at hh
    simp only [List.mem_append] at i8
    rcases hh with h | h | h | h | h
    ·have:=i8 _ (.inl h); omega
    ·have:=i8 _ (.inr (.inl h)); omega
    ·have:=i8 _ (.inr (.inr h)); omega
    ·have:=hlt a.id (by simp only [idsG, List.mem_append]; exact .inr (.inr (.inr h))); omega
    ·obtain ⟨a', ha', e⟩:=yp.1 h
     rcases x7.p a ha with h' | h'
     ·exact d6 a' ha' a h' e
     ·have:=(L6.app.rd.row a' ha').2; omega
   obtain ⟨h', sl', p₂, o₂, pp₂, m₂, rows₂, P', B', s', d', f', n', k', e'⟩:=ih j (i + 1) (g.add (rowP n i s).1) (rowP n i s).2 h8 sl7 p7 o8 pp8 m8 (rows ++ [v6]) (by omega) (by omega) (by have:=row_le n i s; omega) (by simp [Gm.add]; omega) P8 B8 hsl7 hp8
   refine ⟨h', sl', p₂, o₂, pp₂, m₂, rows₂, P', B', s', d', fun a ha=>?_, by have:=x17.x.1; omega, fun j hj hjq hjq3=>by rw [k' j hj hjq hjq3, hkeep j (.inl hj) hjq3, x17.x.2 j (by omega) hjq], fun α kx=>?_⟩
   ·rcases f' a ha with h | h
    ·have:=hp7 a h; exact .inr (by omega)
    ·exact .inr h
   rw [qj.u4.l, qj.u3.f, dT (by omega:(i:Int) < n), cond_true, p_f P, hpn, hf]
   simp only [Option.isNone_none, cond_true]
   rw [e1, e2, e3, e4, e5, e6, e7]
   refine (e8 α _).trans ?_
   rw [jg (by omega) (by omega)]
   exact e' α kx
end
end Go.Ab.S8
namespace Go.Ab.S8
def Tok.shift (d:Int) (t:Tok):Tok:={ t with pos:=t.pos + d }
theorem yj (p:UInt8->Bool) (b:UInt8) (r:List UInt8) (hp:p b = false):∀ l:List UInt8, (l ++ b :: r).takeWhile p = l.takeWhile p
 | []=>by simp [List.takeWhile_cons, hp]
 | a :: l=>by
  rw [List.cons_append, List.takeWhile_cons, List.takeWhile_cons, yj p b r hp l]
theorem zol (c:Int) (l r:List UInt8) (hl:1≤l.length):zaq c (l ++ 10 :: r) = zaq c l:=by
 have h1:(l ++ 10 :: r).drop 1 = l.drop 1 ++ 10 :: r:=List.drop_append_of_le_length hl
 unfold zaq
 rw [h1, yj jj 10 r rfl, yj zaw 10 r rfl]
theorem zgt (a r:List UInt8) {n:Nat} (hn:n≤a.length):(a ++ 10 :: r).drop n = a.drop n ++ 10 :: r:=List.drop_append_of_le_length hn
theorem zit (a r:List UInt8) {n:Nat} (c:UInt8) (hn:n < a.length):zx (a ++ 10 :: r) n c = zx a n c:=by
 have h2:(a.drop n).length = a.length - n:=List.length_drop
 unfold zx
 rw [zgt a r (by omega), zol _ _ _ (by omega), List.take_append_of_le_length (zjf _ _ (by omega))]
theorem zkb (a r:List UInt8) {n:Nat} (c:UInt8) (hn:n < a.length):tokF (a ++ 10 :: r) n c = tokF a n c:=by
 unfold tokF
 rw [zit a r c hn]
theorem remF_join (a r:List UInt8) {n:Nat} (hn:n≤a.length):remF ((a ++ 10 :: r).drop n) = remF (a.drop n):=by
 unfold remF
 rw [zgt a r hn, yj _ 10 r rfl]
theorem zfh {a:List UInt8} (r:List UInt8) {n:Nat} {c:UInt8} (hc:a[n]? = some c):(a ++ 10 :: r)[n]? = some c:=by
 rw [List.getElem?_append_left (zbm hc)]; exact hc
theorem Sc.join {a:List UInt8} (r:List UInt8) {n m:Nat} {ts:List Tok} (s:Sc a n ts m):Sc (a ++ 10 :: r) n ts m:=by
 induction s with
 | nil h=>exact .nil (by rw [List.length_append]; omega)
 | blank hc hb s ih=>exact .blank (zfh r hc) hb ih
 | rem hc hb hr s ih=>
  refine .rem (zfh r hc) hb hr ?_
  rw [remF_join a r (by have:=zbm hc; omega)]
  exact ih
 | tok hc hb hr he s ih=>
  rename_i c
  have e1:=zkb a r c (zbm hc)
  rw [← e1]
  refine .tok (zfh r hc) hb hr (by rw [e1]; exact he) ?_
  rw [zit a r c (zbm hc)]
  exact ih
theorem Bad.join {a:List UInt8} (r:List UInt8) {m:Nat} {e:Int} (b:Bad a m e):Bad (a ++ 10 :: r) m e:=by
 obtain ⟨⟨c, hc, hb, hr, he⟩, hne⟩:=b
 exact ⟨⟨c, zfh r hc, hb, hr, by rw [zkb a r c (zbm hc)]; exact he⟩, hne⟩
theorem Sc.trans {t:List UInt8} {n m q:Nat} {a b:List Tok} (s:Sc t n a m) (r:Sc t m b q):Sc t n (a ++ b) q:=by
 induction s with
 | nil h=>exact r
 | blank hc hb s ih=>exact .blank hc hb (ih r)
 | rem hc hb hr s ih=>exact .rem hc hb hr (ih r)
 | tok hc hb hr he s ih=>exact .tok hc hb hr he (ih r)
theorem Sc.okF {text:List UInt8} {ts:List Tok} (s:Sc text 0 ts text.length) (hl:text.length≤262144):zcu text = .ok (ts ++ [⟨0, (text.length:Nat), [], 0⟩]):=by
 have:=s.scan hl
 rw [List.take_length] at this
 exact this
theorem Sc.line (a r:List UInt8):Sc (a ++ 10 :: r) a.length [⟨1, a.length, [10], 0⟩] (a.length + 1):=by
 have hc:(a ++ 10 :: r)[a.length]? = some 10:=by simp
 have hw:zx (a ++ 10 :: r) a.length 10 = [10]:=by
  unfold zx
  rw [zgt a r (Nat.le_refl _)]
  simp [zaq, ja]
 have ht:tokF (a ++ 10 :: r) a.length 10 = (⟨1, a.length, [10], 0⟩, 0):=by
  unfold tokF
  rw [hw]
  rfl
 have:=Sc.tok (text:=a ++ 10 :: r) (n:=a.length) (m:=a.length + 1) (ts:=[]) hc rfl rfl (by rw [ht]) (by
  rw [hw]
  exact .nil (by simp))
 rw [ht] at this
 exact this
theorem yu (p:UInt8->Bool):∀ l:List UInt8, (∀ b ∈ l, p b = true)->l.takeWhile p = l
 | [], _=>rfl
 | a :: l, h=>by
  rw [List.takeWhile_cons, h a List.mem_cons_self, if_pos rfl, yu p l (fun b hb=>h b (List.mem_cons_of_mem _ hb))]
theorem get_at (p:List UInt8) (c:UInt8) (r:List UInt8):(p ++ c :: r)[p.length]? = some c:=by simp
theorem zhr (p r:List UInt8):(p ++ r).drop p.length = r:=by simp
theorem Sc.sign (p:List UInt8) (c:UInt8) (r:List UInt8) (hk:ja c.toNat = 5) (h35:(c.toNat:Int) ≠ 35):Sc (p ++ c :: r) p.length [⟨5, p.length, [c], 0⟩] (p.length + 1):=by
 have hw:zx (p ++ c :: r) p.length c = [c]:=by
  unfold zx
  rw [zhr, hk]
  simp [zaq]
 have ht:tokF (p ++ c :: r) p.length c = (⟨5, p.length, [c], 0⟩, 0):=by
  unfold tokF
  rw [hw, hk]
  rfl
 have hb:yt c = false:=by
  have h1:(c.toNat:Int) ≠ 32:=by intro h; rw [h] at hk; revert hk; decide
  have h2:(c.toNat:Int) ≠ 9:=by intro h; rw [h] at hk; revert hk; decide
  unfold yt
  rw [decide_eq_false h1, decide_eq_false h2]; rfl
 have:=Sc.tok (text:=p ++ c :: r) (n:=p.length) (m:=p.length + 1) (ts:=[]) (get_at p c r) hb (decide_eq_false h35) (by rw [ht]) (by
  rw [hw]
  exact .nil (by simp))
 rw [ht] at this
 exact this
theorem Sc.name (p:List UInt8) (c:UInt8) (w r:List UInt8) {kd:Int} (hk:ja c.toNat = kd) (hkd:kd = 2 ∨ kd = 3) (hw:∀ b ∈ w, zaw b = true) (hl:w.length < 8) (hr:∀ b s, r = b :: s->zaw b = false) :
  Sc (p ++ ((c :: w) ++ r)) p.length [⟨kd, p.length, c :: w, 0⟩] (p.length + (c :: w).length):=by
 have hg:(p ++ ((c :: w) ++ r))[p.length]? = some c:=by simp
 have htw:(w ++ r).takeWhile zaw = w:=by
  cases r with
  | nil=>
   rw [List.append_nil]
   exact yu zaw w hw
  | cons b s=>
   rw [yj zaw b s (hr b s rfl)]
   exact yu zaw w hw
 have hword:zx (p ++ ((c :: w) ++ r)) p.length c = c :: w:=by
  unfold zx
  rw [zhr, hk]
  unfold zaq
  rw [if_neg (by omega), if_pos hkd]
  rw [List.cons_append, List.drop_succ_cons, List.drop_zero, htw, Nat.add_comm, List.take_succ_cons, List.take_left]
 have ht:tokF (p ++ ((c :: w) ++ r)) p.length c = (⟨kd, p.length, c :: w, 0⟩, 0):=by
  unfold tokF
  rw [hword, hk, if_neg (by omega), if_pos hkd, if_neg (by simp only [List.length_cons]; omega)]
 have hb:yt c = false:=by
  have h1:(c.toNat:Int) ≠ 32:=by intro h; rw [h] at hk; revert hk; rcases hkd with rfl | rfl <;> decide
  have h2:(c.toNat:Int) ≠ 9:=by intro h; rw [h] at hk; revert hk; rcases hkd with rfl | rfl <;> decide
  unfold yt
  rw [decide_eq_false h1, decide_eq_false h2]; rfl
 have hm:zam c = false:=by
  have h1:(c.toNat:Int) ≠ 35:=by intro h; rw [h] at hk; revert hk; rcases hkd with rfl | rfl <;> decide
  exact decide_eq_false h1
 have:=Sc.tok (text:=p ++ ((c :: w) ++ r)) (n:=p.length) (m:=p.length + (c :: w).length) (ts:=[]) hg hb hm (by rw [ht]) (by
  rw [hword]
  exact .nil (by simp))
 rw [ht] at this
 exact this
def Sx (p r:List UInt8) (ts:List Tok) (q r':List UInt8):Prop:=p ++ r = q ++ r' ∧ Sc (p ++ r) p.length ts q.length
theorem Sx.trans {p r q r' v r'':List UInt8} {ts us:List Tok} (a:Sx p r ts q r') (b:Sx q r' us v r''):Sx p r (ts ++ us) v r'':=by
 refine ⟨a.1.trans b.1, a.2.trans ?_⟩
 rw [a.1]
 exact b.2
theorem Sx.sign (p:List UInt8) (c:UInt8) (r:List UInt8) (x:Int) (hx:x = (p.length:Nat)) (hk:ja c.toNat = 5) (h35:(c.toNat:Int) ≠ 35):Sx p (c :: r) [⟨5, x, [c], 0⟩] (p ++ [c]) r:=by
 subst hx
 refine ⟨by simp, ?_⟩
 have:=Sc.sign p c r hk h35
 rw [show (p ++ [c]).length = p.length + 1 by simp]
 exact this
theorem Sx.name (p:List UInt8) (c:UInt8) (w r:List UInt8) (x:Int) (hx:x = (p.length:Nat)) {kd:Int} (hk:ja c.toNat = kd) (hkd:kd = 2 ∨ kd = 3) (hw:∀ b ∈ w, zaw b = true) (hl:w.length < 8) (hr:∀ b s, r = b :: s->zaw b = false) :
  Sx p ((c :: w) ++ r) [⟨kd, x, c :: w, 0⟩] (p ++ (c :: w)) r:=by
 subst hx
 refine ⟨by simp, ?_⟩
 have:=Sc.name p c w r hk hkd hw hl hr
 rw [show (p ++ (c :: w)).length = p.length + (c :: w).length by simp]
 exact this
theorem tokF_kind {text:List UInt8} {n:Nat} {c:UInt8} (h:(tokF text n c).2 = 0):(tokF text n c).1.kind ≠ 0:=by
 unfold tokF at h ⊢
 by_cases h0:ja c.toNat = 0
 ·rw [if_pos h0] at h; exact absurd (show (3:Int) = 0 from h) (by decide)
 ·rw [if_neg h0]
  by_cases h2:ja c.toNat = 2 ∨ ja c.toNat = 3
  ·rw [if_pos h2]; exact h0
  ·rw [if_neg h2]
   by_cases h4:ja c.toNat = 4
   ·rw [if_pos h4]; split <;> (show (4:Int) ≠ 0; decide)
   ·rw [if_neg h4]; exact h0
theorem Sc.kinds {text:List UInt8} {n m:Nat} {ts:List Tok} (s:Sc text n ts m):∀ t ∈ ts, t.kind ≠ 0:=by
 induction s with
 | nil _=>intro t ht; cases ht
 | blank _ _ _ ih=>exact ih
 | rem _ _ _ _ ih=>exact ih
 | tok _ _ _ he _ ih=>
  intro t ht
  rcases List.mem_cons.1 ht with rfl | ht
  ·exact tokF_kind he
  ·exact ih t ht
end Go.Ab.S8
namespace Go.Ab.S8
variable {α:Type} {h:H}
theorem scan_ends {text:List UInt8} {ts:List Tok} (h:zcu text = .ok ts):Ends ts ∧ ts.length≤text.length + 1 ∧ text.length≤262144:=by
 rcases znf text with ⟨_, hs⟩ | ⟨hl, us, sc, hs⟩ | ⟨_, _, _, _, _, _, hs⟩
 ·rw [hs] at h; cases h
 ·rw [hs] at h
  cases h
  refine ⟨⟨us, _, rfl, rfl, sc.kinds⟩, ?_, hl⟩
  have a1:=All_run (262144 + 6) text (by omega) h0
  rw [hs] at a1
  obtain ⟨_, _, _, _, _, _, h5, _⟩:=a1
  exact h5
 ·rw [hs] at h; cases h
theorem headP_n (s:St) (hs:s.f = none):(yn s).1 = 0 ∨ (1≤(yn s).1 ∧ (yn s).1≤200):=by
 unfold yn
 dsimp only
 generalize (yv 2 [103, 97, 109, 101] (yc s)).2 = t
 cases hf:t.f with
 | some fe=>
  unfold numP
  split
  ·rw [zcz hf, yk hf]; exact .inl rfl
  ·rw [yk hf]; exact .inl rfl
 | none=>
  by_cases h4:t.hd.kind = 4
  ·rcases zmq (a:=1) (b:=200) (e:=10) hf h4 with h | ⟨h, h1, h2⟩
   ·exact .inl h
   ·rw [h]; exact .inr ⟨h1, h2⟩
  ·unfold numP
   rw [if_neg (fun hh=>h4 hh.1), zid hf (fun hh=>h4 hh.1)]
   exact .inl rfl
theorem headP_le (s:St):(yn s).2.l.length≤s.l.length:=by
 unfold yn
 exact Nat.le_trans (end_le _) (Nat.le_trans (zdq _ _ _ _) (Nat.le_trans (zfj _ _ _) (zdy _)))
def GmO (h':H) (b:Nat) (o p m:Sl) (g:Gm):Prop:=∃ q3 b' rows, b≤b' ∧ BO h' b' q3 o p m rows g
theorem zgg (k:Nat) (hk:300000≤k) (text:List UInt8) (h:H) :
  match zgb text with
  | .ok g=>∃ o p m h', (∀ (α:Type) (ret:Sl->Sl->Sl->V->M α), qj.f (k + 6) text ret h = ret o p m .nilIface h') ∧ Ext h h' ∧ GmO h' h.next o p m g
  | .error e=>∃ i h', (∀ (α:Type) (ret:Sl->Sl->Sl->V->M α), qj.f (k + 6) text ret h = ret Sl.nil Sl.nil Sl.nil (.iface 56 (.ptr (some ⟨i, 0⟩))) h') ∧ Ext h h' ∧ h.next≤i ∧ i < h'.next ∧ h'.get i = some (.cells [.int .i64 e.1, .int .i64 e.2] true):=by
 have x1:Ext h (h.push (gC Sl.nil Sl.nil Sl.nil)):=(Ext.refl h).push _
 have b0:(h.push (gC Sl.nil Sl.nil Sl.nil)).get h.next = some (gC Sl.nil Sl.nil Sl.nil):=ye _
 have n1:(h.push (gC Sl.nil Sl.nil Sl.nil)).next = h.next + 1:=rfl
 have A:=All_run (k + 4) text (by omega) (h.push (gC Sl.nil Sl.nil Sl.nil))
 unfold zgb
 cases hs:zcu text with
 | error me=>
  obtain ⟨m, e⟩:=me
  rw [hs] at A
  obtain ⟨i, h2, e2, x2, hi, hlt, hg⟩:=A
  have b2:h2.get h.next = some (gC Sl.nil Sl.nil Sl.nil):=by rw [x2.2 _ (by omega)]; exact b0
  refine ⟨i, h2.put h.next (some (gC Sl.nil Sl.nil Sl.nil)), fun α ret=>?_, ⟨by rw [zai]; have:=x2.1; omega, fun j hj=>by rw [zw, if_neg (by omega), x2.2 _ (by omega), x1.2 j hj]⟩, by omega, by rw [zai]; exact hlt, by rw [zw, if_neg (by omega)]; exact hg⟩
  have hq:(h2.put h.next (some (gC Sl.nil Sl.nil Sl.nil))).get h.next = some (gC Sl.nil Sl.nil Sl.nil):=by rw [js]
  rw [qj.f]
  unfold qj.u9.f qj.u1.f
  rw [jc rfl, e2]
  refine (show _ = _ from g_st (q:=h.next) b2 Sl.nil Sl.nil Sl.nil _).trans ?_
  show (ldS ((⟨h.next, 0⟩:Ad).add 0) fun o501=>ldS ((⟨h.next, 0⟩:Ad).add 1) fun o502=>ldS ((⟨h.next, 0⟩:Ad).add 2) fun o503=>ret o501 o502 o503 _) _ = _
  rw [g_o' hq, g_p' hq, g_m' hq]
 | ok ts=>
  rw [hs] at A
  obtain ⟨sl, h2, e2, x2, R2, O2, hlen, hl⟩:=A
  obtain ⟨hE, _, _⟩:=scan_ends hs
  have hx2:=x2.1
  -- the reader
  have x3:Ext h2 (h2.push (.cells [.slice sl, .ptr none] true)):=(Ext.refl h2).push _
  have P0:PR (h2.push (.cells [.slice sl, .ptr none] true)) h2.next sl none ⟨ts, none⟩:=by
   have r:=Row.toRd R2
   exact ⟨Nat.lt_succ_self _, ye _, r.ext x3, (Row.toApp R2:App h2 sl 4 (zag ts)).fine, fun a ha=>by have:=(r.row a ha).2; omega, rfl, hE⟩
  have hle0:(⟨ts, none⟩:St).l.length = ts.length:=rfl
  obtain ⟨h3, sl3, p3, P3, Q3, e3⟩:=zgr P0 (k + 3) (by show ts.length < _; omega)
  obtain ⟨h4, sl4, p4, P4, Q4, e4⟩:=zbj P3 (k + 2) 2 [103, 97, 109, 101]
  obtain ⟨h5, sl5, p5, P5, Q5, e5⟩:=zft P4 (k + 1) 1 200 10
  obtain ⟨h6, sl6, p6, P6, Q6, e6⟩:=end_run P5 (k + 1)
  have Q:=((Q3.trans Q4).trans Q5).trans Q6
  have hx6:=Q.x.1
  have x6:∀ j, j < h2.next->h6.get j = h2.get j:=fun j hj=>by rw [Q.x.2 j (by rw [zk]; omega) (by omega), x3.2 j hj]
  -- the game's own block
  have x7:Ext h6 (h6.push (gC Sl.nil Sl.nil Sl.nil)):=(Ext.refl h6).push _
  have P7:=P6.push (gC Sl.nil Sl.nil Sl.nil)
  rw [zk] at hx6
  have B7:BO (h6.push (gC Sl.nil Sl.nil Sl.nil)) (h6.next + 1) h6.next Sl.nil Sl.nil Sl.nil [] ⟨[], [], []⟩:=
   ⟨Nat.lt_succ_self _, Nat.le_refl _, ye _, App.nilSl _ 1, App.nilSl _ 1, App.nilSl _ 1, rfl, fun i r l hi=>(by simp at hi), fun i hi=>(by simp [idsG, adI, Sl.nil] at hi), by simp [idsG, adI, Sl.nil], fun s hs _=>(by rcases hs with rfl | rfl | rfl | hs <;> first | rfl | cases hs)⟩
  have hsl7:∀ a, sl6.ad = some a->a.id < h6.next + 1 ∧ a.id ≠ h6.next:=fun a ha=>by have:=(P6.toks.row a ha).2; omega
  have hp7:∀ a, p6 = some a->a.id ≠ h6.next ∧ a.id ∉ idsG Sl.nil Sl.nil Sl.nil []:=fun a ha=>⟨by have:=P6.plt a ha; omega, by simp [idsG, adI, Sl.nil]⟩
  have hn:=headP_n ⟨ts, none⟩ rfl
  have hle:=headP_le ⟨ts, none⟩
  obtain ⟨h8, sl8, p8, o8, pp8, m8, rows8, P8, B8, hsl8, hp8, f8, n8, k8, e8⟩:=rowl_loop k (yn ⟨ts, none⟩).1 (by omega) (q:=h2.next) (q3:=h6.next) (b:=h6.next + 1) (by omega) (by omega) (x0:=⟨h.next, 0⟩) (yn ⟨ts, none⟩).1.toNat (k + 5) 0 ⟨[], [], []⟩ (yn ⟨ts, none⟩).2 _ sl6 p6 Sl.nil Sl.nil Sl.nil [] (by omega) (by omega) (by rw [hle0] at hle; omega) ⟨rfl, rfl, rfl⟩ P7 B7 hsl7 hp7
  have hrows:(zax (yn ⟨ts, none⟩).1 (yn ⟨ts, none⟩).1.toNat ((0:Nat):Int) ⟨[], [], []⟩ (yn ⟨ts, none⟩).2).2.l.length≤ts.length:=by
   have key:∀ (c:Nat) (i:Int) (g:Gm) (s:St), (zax (yn ⟨ts, none⟩).1 c i g s).2.l.length≤s.l.length:=by
    intro c
    induction c with
    | zero=>intro i g s; exact Nat.le_refl _
    | succ c ih=>
     intro i g s
     rw [zax]
     split
     ·exact Nat.le_trans (ih _ _ _) (row_le _ _ _)
     ·exact Nat.le_refl _
   exact Nat.le_trans (key _ _ _ _) (by rw [hle0] at hle; exact hle)
  have hrows0:(zax (yn ⟨ts, none⟩).1 (yn ⟨ts, none⟩).1.toNat ((0:Nat):Int) ⟨[], [], []⟩ (yn ⟨ts, none⟩).2) = zax (yn ⟨ts, none⟩).1 (yn ⟨ts, none⟩).1.toNat 0 ⟨[], [], []⟩ (yn ⟨ts, none⟩).2:=rfl
  rw [hrows0] at P8 B8 hrows
  obtain ⟨h9, sl9, p9, P9, Q9, e9⟩:=zgr P8 (k + 3) (by omega)
  obtain ⟨h10, sl10, p10, P10, Q10, e10⟩:=zbj P9 (k + 2) 0 []
  have Qe:=Q9.trans Q10
  have hxe:=Qe.x.1
  rw [zk] at n8
  have hlt8:=B8.lti
  have B10:BO h10 (h6.next + 1) h6.next o8 pp8 m8 rows8 (zax (yn ⟨ts, none⟩).1 (yn ⟨ts, none⟩).1.toNat 0 ⟨[], [], []⟩ (yn ⟨ts, none⟩).2).1:=B8.keep hxe (Qe.x.2 _ (by omega) (by omega)) fun i hi=>Qe.x.2 i (hlt8 i hi) (by have:=B8.old i hi; omega)
  have b10:h10.get h.next = some (gC Sl.nil Sl.nil Sl.nil):=by
   rw [Qe.x.2 _ (by omega) (by omega), k8 _ (by omega) (by omega) (by omega), x7.2 _ (by omega), x6 _ (by omega), x2.2 _ (by omega)]; exact b0
  have hold:∀ j, j < h.next->h10.get j = h.get j:=fun j hj=>by
   rw [Qe.x.2 _ (by omega) (by omega), k8 _ (by omega) (by omega) (by omega), x7.2 _ (by omega), x6 _ (by omega), x2.2 _ (by omega), x1.2 j hj]
  have hn10:h.next < h10.next:=by omega
  have start:∀ (α:Type) (ret:Sl->Sl->Sl->V->M α), qj.f (k + 6) text ret h = cond (!p10.isNone) (ldP (((⟨h2.next, 0⟩:Ad).add 1).add 0) fun x7=>st1 ((⟨h.next, 0⟩:Ad).add 0) (.slice Sl.nil) <| st1 ((⟨h.next, 0⟩:Ad).add 1) (.slice Sl.nil) <| st1 ((⟨h.next, 0⟩:Ad).add 2) (.slice Sl.nil) <| ldP (((⟨h2.next, 0⟩:Ad).add 1).add 0) fun y8=>need (decide (x7 = y8)) <|
    (ldS ((⟨h.next, 0⟩:Ad).add 0) fun o501=>ldS ((⟨h.next, 0⟩:Ad).add 1) fun o502=>ldS ((⟨h.next, 0⟩:Ad).add 2) fun o503=>ret o501 o502 o503 (.iface 56 (.ptr x7))))
    (ldS ((⟨h6.next, 0⟩:Ad).add 0) fun x9=>ldS ((⟨h6.next, 0⟩:Ad).add 1) fun x10=>ldS ((⟨h6.next, 0⟩:Ad).add 2) fun x11=>st1 ((⟨h.next, 0⟩:Ad).add 0) (.slice x9) <| st1 ((⟨h.next, 0⟩:Ad).add 1) (.slice x10) <| st1 ((⟨h.next, 0⟩:Ad).add 2) (.slice x11) <|
    (ldS ((⟨h.next, 0⟩:Ad).add 0) fun o501=>ldS ((⟨h.next, 0⟩:Ad).add 1) fun o502=>ldS ((⟨h.next, 0⟩:Ad).add 2) fun o503=>ret o501 o502 o503 .nilIface)) h10:=fun α ret=>by
   rw [qj.f]
   unfold qj.u9.f qj.u1.f
   rw [jc rfl, e2]
   simp only [zkg, Bool.not_true, cond_false]
   rw [jc rfl, e3, e4, e5, e6, jc rfl]
   unfold qj.u8.f qj.u6.f qj.u2.f qj.u5.f qj.u4.f
   refine (e8 α _).trans ?_
   unfold qj.u7.f
   dsimp only
   rw [e9, e10, p_f P10]
  have hpn:=P10.f.isNone
  show match zlr _ with | .ok g=>_ | .error e=>_
  unfold zlr
  cases hf:(yv 0 [] (yc (zax (yn ⟨ts, none⟩).1 (yn ⟨ts, none⟩).1.toNat 0 ⟨[], [], []⟩ (yn ⟨ts, none⟩).2).2)).2.f with
  | some fe=>
   rw [hf] at hpn
   dsimp only
   have hfr:=P10.f
   rw [hf] at hfr
   obtain ⟨i, h1, h2', h3', h4'⟩:=hfr
   have hi:i ≠ h.next:=fun e=>by
    subst e
    rw [b10] at h4'
    cases h4'
   have hil:h.next≤i:=by
    rcases Qe.p _ h1 with h | h
    ·rcases f8 _ h with h | h
     ·rcases Q.p _ h with h | h
      ·cases h
      ·rw [zk] at h; dsimp only at h; omega
     ·dsimp only at h; omega
    ·dsimp only at h; omega
   refine ⟨i, h10.put h.next (some (gC Sl.nil Sl.nil Sl.nil)), fun α ret=>?_, ⟨by rw [zai]; omega, fun j hj=>by rw [zw, if_neg (by omega)]; exact hold j hj⟩, hil, by rw [zai]; exact h3', by rw [zw, if_neg hi]; exact h4'⟩
   have hq:(h10.put h.next (some (gC Sl.nil Sl.nil Sl.nil))).get h.next = some (gC Sl.nil Sl.nil Sl.nil):=by rw [js]
   have hpf:∀ (α:Type) (K:Option Ad->M α), ldP (((⟨h2.next, 0⟩:Ad).add 1).add 0) K (h10.put h.next (some (gC Sl.nil Sl.nil Sl.nil))) = K p10 (h10.put h.next (some (gC Sl.nil Sl.nil Sl.nil))):=fun α K=>
    zfp (by simp only [jn]; rw [jp (a:=⟨h2.next, 0 + 1 + 0⟩) (by rw [zw, if_neg (by show h2.next ≠ h.next; omega)]; exact P10.blk)]; rfl)
   rw [start, hpn]
   simp only [Option.isNone_some, Bool.not_false, cond_true]
   rw [p_f P10, g_st (q:=h.next) b10, hpf, zq (dT rfl), g_o' hq, g_p' hq, g_m' hq, h1]
  | none=>
   rw [hf] at hpn
   dsimp only
   have hq:(h10.put h.next (some (gC o8 pp8 m8))).get h.next = some (gC o8 pp8 m8):=by rw [js]
   refine ⟨o8, pp8, m8, h10.put h.next (some (gC o8 pp8 m8)), fun α ret=>?_, ⟨by rw [zai]; omega, fun j hj=>by rw [zw, if_neg (by omega)]; exact hold j hj⟩, h6.next, h6.next + 1, rows8, by omega, B10.keep (Nat.le_refl _) (by rw [zw, if_neg (by omega)]) fun i hi=>by rw [zw, if_neg (by have:=B10.old i hi; omega)]⟩
   rw [start, hpn]
   simp only [Option.isNone_none, Bool.not_true, cond_false]
   rw [g_o' B10.blk, g_p' B10.blk, g_m' B10.blk, g_st (q:=h.next) b10, g_o' hq, g_p' hq, g_m' hq]
end Go.Ab.S8
namespace Go.Ab.S8
variable {α:Type} {h:H}
def FE (e:Int) (a:Int):Option (Int × Int)->Prop
 | none=>e = 0
 | some (m, e')=>a = m ∧ e = e' ∧ e' ≠ 0
structure RR (h:H) (q:Nat) (sl:Sl) (ts:List Tok) (s:St) (I:Nat) (a e:Int):Prop where
 lt:q < h.next
 blk:h.get q = some (.cells [.slice sl, .int .i64 (I:Int), .int .i64 a, .int .i64 e] true)
 l:ts.drop I = s.l
 f:FE e a s.f
 toks:TkR h sl ts
 tok:∀ x, sl.ad = some x->x.id ≠ q
 ends:Ends s.l
 big:ts.length≤300000
section
variable {q:Nat} {sl:Sl} {ts:List Tok} {s:St} {I:Nat} {a e:Int}
theorem RR.ext {h':H} (P:RR h q sl ts s I a e) (x:ExQ q h h') (hb:h'.get q = h.get q):RR h' q sl ts s I a e:=
 ⟨Nat.lt_of_lt_of_le P.lt x.1, by rw [hb]; exact P.blk, P.l, P.f, P.toks.keep x.1 fun y hy=>x.2 _ (P.toks.row y hy).2 (P.tok y hy), P.tok, P.ends, P.big⟩
theorem RR.push (P:RR h q sl ts s I a e) (b:Blk):RR (h.push b) q sl ts s I a e:=P.ext (.of ((Ext.refl h).push b)) (((Ext.refl h).push b).2 q P.lt)
theorem RR.hd (P:RR h q sl ts s I a e):ts[I]? = some s.hd:=by
 have h1:=P.ends.hd
 rw [← P.l, List.getElem?_drop, Nat.add_zero] at h1
 exact h1
theorem RR.ilt (P:RR h q sl ts s I a e):I < ts.length:=zbf P.hd
theorem RR.adv (P:RR h q sl ts s I a e) (hk:s.hd.kind ≠ 0) :
  RR (h.put q (some (.cells [.slice sl, .int .i64 ((I + 1:Nat):Int), .int .i64 a, .int .i64 e] true))) q sl ts ⟨s.l.tail, s.f⟩ (I + 1) a e ∧ ∀ (α:Type) (K:M α), st1 (((⟨q, 0⟩:Ad).add 1).add 0) (.int .i64 (w64 ((I:Int) + 1))) K h = K (h.put q (some (.cells [.slice sl, .int .i64 ((I + 1:Nat):Int), .int .i64 a, .int .i64 e] true))):=by
 have hb:=P.big
 have hi:=P.ilt
 obtain ⟨h1, h2⟩:=P.ends.tailS hk
 refine ⟨⟨P.lt, by rw [js], ?_, P.f, P.toks.keep (Nat.le_refl _) fun y hy=>by rw [zw, if_neg (P.tok y hy)], P.tok, h1, P.big⟩, fun α K=>?_⟩
 ·show ts.drop (I + 1) = s.l.tail
  rw [← P.l, List.tail_drop]
 ·rw [jg (by omega) (by omega)]
  simp only [jn]
  rw [zas (a:=⟨q, 0 + 1 + 0⟩) P.blk rfl (by simp)]
  rfl
end
end Go.Ab.S8
namespace Go.Ab.S8
variable {α:Type} {h:H}
section
variable {q:Nat} {sl:Sl} {ts:List Tok} {s:St} {I:Nat} {a e:Int}
theorem RR.app (P:RR h q sl ts s I a e) {v:Sl} {h':H} (hn:h.next≤h'.next) (hk:∀ i, i < h.next->(∀ x, v.ad = some x->i ≠ x.id)->h'.get i = h.get i) (hv:∀ x, v.ad = some x->x.id ≠ q ∧ ∀ y, sl.ad = some y->x.id ≠ y.id):RR h' q sl ts s I a e:=
 ⟨Nat.lt_of_lt_of_le P.lt hn, by rw [hk q P.lt fun x hx=>Ne.symm (hv x hx).1]; exact P.blk, P.l, P.f, P.toks.keep hn fun y hy=>hk _ (P.toks.row y hy).2 fun x hx=>Ne.symm ((hv x hx).2 y hy), P.tok, P.ends, P.big⟩
end
section
variable {b q3:Nat} {o p m:Sl} {rows:List Sl} {g:Gm}
end
end Go.Ab.S8
namespace Go.Ab.S8
variable {α:Type} {h:H}
def zfz:Gm:=⟨[0, 1, 1], [1, 4, 7], [[1, 2], [0], [0, 2]]⟩
theorem shown1:zgb ([32, 10] ++ lit2 ++ [35, 32, 116, 104, 101, 32, 101, 110, 100]) = .ok zfz:=by kernel_rfl
theorem shown2:zgb [103, 97, 109, 101, 32, 49, 10, 48, 32, 48, 32, 48, 32, 58, 32, 53] = .error (15, 16):=by kernel_rfl
theorem shown3:(zde zfz).2 = 0:=by kernel_rfl
theorem shown4:zbe zfz = lit2:=by kernel_rfl
theorem shown_GB:GB 10 zfz:=⟨⟨by decide, by decide⟩, ⟨by decide, by decide⟩, ⟨by decide, by decide⟩, fun l hl=>by simp [zfz] at hl; rcases hl with rfl | rfl | rfl <;> simp⟩
theorem shown_run (k:Nat) (hk:300100≤k):∃ h', Ext h h' ∧ ∀ (α:Type) (ret:Bool->M α), qv.f (k + 7) ret h = ret true h':=by
 have A:=zgg k (by omega) ([32, 10] ++ lit2 ++ [35, 32, 116, 104, 101, 32, 101, 110, 100]) h
 rw [shown1] at A
 obtain ⟨o, p, m, h1, e1, x1, q3, b', rows, hb', B⟩:=A
 have x2:Ext h1 (h1.push (gC o p m)):=(Ext.refl h1).push _
 have b1:(h1.push (gC o p m)).get h1.next = some (gC o p m):=ye _
 have A2:=zgg k (by omega) [103, 97, 109, 101, 32, 49, 10, 48, 32, 48, 32, 48, 32, 58, 32, 53] (h1.push (gC o p m))
 rw [shown2] at A2
 obtain ⟨i, h3, e3, x3, hi, hlt, hg⟩:=A2
 have x4:Ext h3 (h3.push (gC Sl.nil Sl.nil Sl.nil)):=(Ext.refl h3).push _
 have x5:Ext (h3.push (gC Sl.nil Sl.nil Sl.nil)) ((h3.push (gC Sl.nil Sl.nil Sl.nil)).push (.cells [.ptr (some ⟨i, 0⟩)] true)):=(Ext.refl _).push _
 have x15:=((x2.trans x3).trans x4).trans x5
 have hn:=x15.1
 have b5:((h3.push (gC Sl.nil Sl.nil Sl.nil)).push (.cells [.ptr (some ⟨i, 0⟩)] true)).get h1.next = some (gC o p m):=by
  rw [((x3.trans x4).trans x5).2 _ (by rw [zk]; omega)]; exact b1
 have G:GmR ((h3.push (gC Sl.nil Sl.nil Sl.nil)).push (.cells [.ptr (some ⟨i, 0⟩)] true)) o p m zfz:=B.gm.ext x15
 have ef:=fun (α:Type) (ret:Int->Int->M α)=>zks (k + 4) ret (h3.push (gC Sl.nil Sl.nil Sl.nil)) i 15 16 (by rw [zk]; omega) (by rw [x4.2 _ hlt]; exact hg)
 generalize (h3.push (gC Sl.nil Sl.nil Sl.nil)).push (.cells [.ptr (some ⟨i, 0⟩)] true) = h5 at x15 b5 G ef
 obtain ⟨h6, x6, e6⟩:=zkt k G (shown_GB.mono (by omega)) (by omega)
 rw [if_pos shown3, shown4] at e6
 have lo:o.len = 3:=ilen G.o
 refine ⟨h6, x1.trans (x15.trans x6), fun α ret=>?_⟩
 rw [qv.f, qv.u1.f, zhw (by decide), zhw (by decide), e1, g_new, e3, g_new, ef]
 simp only [zkg, cond_true]
 rw [g_o b5, lo, dT (by rfl:((3:Nat):Int) = 3), cond_true, g_p b5, zbz G.p (x:=2) (i:=2) (v:=7) rfl rfl, dT rfl, cond_true, g_o' b5, g_p' b5, g_m' b5, e6]
 simp only [decide_true, cond_true]
end Go.Ab.S8
namespace Go.Ab.S8
variable {α:Type} {h:H}
structure GN (g:Gm):Prop where
 o:g.ow.length≤17592186044416
 p:g.pr.length≤17592186044416
 m:g.mv.length≤5864062014805
 l:∀ l ∈ g.mv, l.length≤17592186044416
theorem sum_ge:∀ (ls:List (List Int)) (l:List Int), l ∈ ls->l.length≤(ls.map List.length).sum
 | x :: ls, l, h=>by
  simp only [List.map_cons, List.sum_cons]
  rcases List.mem_cons.1 h with rfl | h
  ·omega
  ·have:=sum_ge ls l h; omega
theorem GN.gb {g:Gm} (b:GN g):GB (g.ow.length + g.pr.length + g.mv.length + (g.mv.map List.length).sum + 1) g:=
 ⟨⟨by omega, b.o⟩, ⟨by omega, b.p⟩, ⟨by omega, b.m⟩, fun l hl=>⟨by have:=sum_ge g.mv l hl; omega, b.l l hl⟩⟩
end Go.Ab.S8
namespace Go.Ab.S8
structure Fine (n:Int) (s:St):Prop where
 l:∀ t ∈ s.l, 0≤t.pos ∧ t.pos≤n
 f:∀ m e, s.f = some (m, e)->0≤m ∧ m≤n ∧ e ≠ 0
 ends:Ends s.l
theorem Fine.hd {n:Int} {s:St} (h:Fine n s):0≤s.hd.pos ∧ s.hd.pos≤n:=h.l _ (List.mem_of_getElem? h.ends.hd)
theorem Fine.fail {n:Int} {s:St} (h:Fine n s) {e:Int} (he:e ≠ 0):Fine n (zbc e s):=by
 cases hf:s.f with
 | some fe=>rw [zcz hf]; exact h
 | none=>rw [zeu hf]; exact ⟨h.l, fun m e' hh=>by cases hh; exact ⟨h.hd.1, h.hd.2, he⟩, h.ends⟩
theorem Fine.take {n:Int} {s:St} (h:Fine n s) (kind:Int) (text:List UInt8):Fine n (yv kind text s).2:=by
 cases hf:s.f with
 | some fe=>rw [yk hf]; exact h
 | none=>
  by_cases c:s.hd.kind = kind ∧ (text = [] ∨ s.hd.text = text)
  ·rw [zea hf c]
   by_cases c0:kind = 0
   ·rw [if_pos c0]; exact h
   ·rw [if_neg c0]
    have hk:s.hd.kind ≠ 0:=by omega
    exact ⟨fun t ht=>h.l t (List.mem_of_mem_tail ht), fun m e hh=>(by cases hh), (h.ends.tailS hk).1⟩
  ·rw [zid hf c]
   exact h.fail (by split <;> decide)
theorem Fine.num {n:Int} {s:St} (h:Fine n s) (a b:Int) {e:Int} (he:e ≠ 0):Fine n (numP a b e s).2:=by
 unfold numP
 split
 ·exact (h.fail he).take 4 []
 ·exact h.take 4 []
theorem ziu:∀ {l:List Tok} {t:Tok}, t ∈ zaz l->t ∈ l
 | [], _, h=>h
 | u :: r, t, h=>by
  rw [zaz] at h
  split at h
  ·exact List.mem_cons_of_mem _ (ziu h)
  ·exact h
theorem Fine.blank {n:Int} {s:St} (h:Fine n s):Fine n (yc s):=⟨fun t ht=>h.l t (ziu ht), h.f, h.ends.blank⟩
theorem Fine.endP {n:Int} {s:St} (h:Fine n s):Fine n (endP s):=by
 unfold S8.endP
 split
 ·exact h
 ·exact h.take 1 []
theorem Fine.mvs {n:Int} (k:Int):∀ (f:Nat) (acc:List Int) (last:Int) (s:St), Fine n s->Fine n (mvsP k f acc last s).2
 | 0, _, _, _, h=>h
 | f + 1, acc, last, s, h=>by
  rw [mvsP]
  split
  ·exact Fine.mvs k f _ _ _ (h.num _ _ (by decide))
  ·exact h
theorem Fine.moves {n:Int} {s:St} (h:Fine n s) (k:Int):Fine n (zay k s).2:=by
 unfold zay zgo
 dsimp only
 split
 ·exact (Fine.mvs k _ _ _ _ h).fail (by decide)
 ·exact Fine.mvs k _ _ _ _ h
theorem Fine.row {n:Int} {s:St} (h:Fine n s) (k i:Int):Fine n (rowP k i s).2:=
 ((((((h.blank.num i i (by decide)).num 0 1 (by decide)).num 0 7 (by decide)).take 5 [58]).moves k)).endP
theorem Fine.rows {n:Int} (k:Int):∀ (c:Nat) (i:Int) (g:Gm) (s:St), Fine n s->Fine n (zax k c i g s).2
 | 0, _, _, _, h=>h
 | c + 1, i, g, s, h=>by
  rw [zax]
  split
  ·exact Fine.rows k c _ _ _ (h.row k i)
  ·exact h
theorem Sc.pos {text:List UInt8} {n m:Nat} {ts:List Tok} (s:Sc text n ts m):∀ t ∈ ts, 0≤t.pos ∧ t.pos≤text.length:=by
 induction s with
 | nil _=>intro t ht; cases ht
 | blank _ _ _ ih=>exact ih
 | rem _ _ _ _ ih=>exact ih
 | tok hc _ _ he _ ih=>
  intro t ht
  rcases List.mem_cons.1 ht with rfl | ht
  ·rw [zmf]; have:=zbm hc; omega
  ·exact ih t ht
structure RowL (n i:Int) (l l':List Tok) (r:Rw):Prop where
 ex:∃ b ti to' tp tc ms rest, l = b ++ (ti :: to' :: tp :: tc :: (ms ++ rest)) ∧ (∀ t ∈ b, t.kind = 1) ∧ (ti.kind = 4 ∧ ti.num = i) ∧ (to'.kind = 4 ∧ to'.num = r.o) ∧ (tp.kind = 4 ∧ tp.num = r.p) ∧ (tc.kind = 5 ∧ tc.text = [58]) ∧ (∀ t ∈ ms, t.kind = 4) ∧ ms.map Tok.num = r.m ∧
  ((rest = l' ∧ ∃ e x, rest = e :: x ∧ e.kind = 0) ∨ ∃ e, rest = e :: l' ∧ e.kind = 1)
 ok:RowOk n r.o r.p r.m
end Go.Ab.S8
namespace Go.Ab.S8
inductive RowsL (n:Int):Int->List Tok->List Rw->List Tok->Prop
 | nil {i:Int} {l:List Tok}:RowsL n i l [] l
 | cons {i:Int} {l l' l'':List Tok} {r:Rw} {rs:List Rw}:RowL n i l l' r->RowsL n (i + 1) l' rs l''->RowsL n i l (r :: rs) l''
def zbi (rs:List Rw):Gm:=⟨rs.map Rw.o, rs.map Rw.p, rs.map Rw.m⟩
structure PageL (ts:List Tok) (g:Gm):Prop where
 ex:∃ b tg tn rest l1 rs l2 e, ts = b ++ (tg :: tn :: rest) ∧ (∀ t ∈ b, t.kind = 1) ∧ (tg.kind = 2 ∧ tg.text = [103, 97, 109, 101]) ∧ (tn.kind = 4 ∧ tn.num = (rs.length:Int)) ∧ (1≤rs.length ∧ rs.length≤200) ∧
  ((rest = l1 ∧ ∃ e x, rest = e :: x ∧ e.kind = 0) ∨ ∃ e, rest = e :: l1 ∧ e.kind = 1) ∧ RowsL (rs.length:Int) 0 l1 rs l2 ∧ g = zbi rs ∧ (∃ b', l2 = b' ++ [e] ∧ ∀ t ∈ b', t.kind = 1) ∧ e.kind = 0
theorem RowsL.rows {n:Int} {i:Int} {l l':List Tok} {rs:List Rw} (h:RowsL n i l rs l'):∀ r ∈ rs, RowOk n r.o r.p r.m:=by
 induction h with
 | nil=>intro r hr; cases hr
 | cons R _ ih=>
  intro r hr
  rcases List.mem_cons.1 hr with rfl | hr
  ·exact R.ok
  ·exact ih r hr
theorem PageL.ok {ts:List Tok} {g:Gm} (h:PageL ts g):Ok g:=by
 obtain ⟨b, tg, tn, rest, l1, rs, l2, e, _, _, _, _, h1, _, h2, rfl, _⟩:=h.ex
 refine ⟨by simp [zbi], by simp [zbi], by simpa [zbi] using h1.1, by simpa [zbi] using h1.2, fun i o p l e1 e2 e3=>?_⟩
 simp only [zbi, List.getElem?_map, Option.map_eq_some_iff] at e1 e2 e3
 obtain ⟨r, hr, rfl⟩:=e1
 obtain ⟨r2, hr2, rfl⟩:=e2
 obtain ⟨r3, hr3, rfl⟩:=e3
 rw [hr] at hr2 hr3
 cases hr2; cases hr3
 have:=h2.rows r (List.mem_of_getElem? hr)
 simpa [zbi] using this
theorem Ok.short {g:Gm} (h:Ok g):∀ l ∈ g.mv, l.length≤200:=by
 intro l hl
 obtain ⟨i, hi⟩:=List.getElem?_of_mem hl
 have hlt:=zbf hi
 have hlo:i < g.ow.length:=by rw [h.l1]; exact hlt
 have hlp:i < g.pr.length:=by rw [h.l2]; exact hlt
 have R:=h.row i g.ow[i] g.pr[i] l (List.getElem?_eq_getElem hlo) (List.getElem?_eq_getElem hlp) hi
 have:=zdg (by have:=h.n1; omega) R.m
 have:=h.n2
 omega
theorem Ok.gb {g:Gm} (h:Ok g):GB 201 g:=
 ⟨⟨by have:=h.l1; have:=h.n2; omega, by have:=h.l1; have:=h.n2; omega⟩, ⟨by have:=h.l2; have:=h.n2; omega, by have:=h.l2; have:=h.n2; omega⟩, ⟨by have:=h.n2; omega, by have:=h.n2; omega⟩, fun l hl=>⟨by have:=h.short l hl; omega, by have:=h.short l hl; omega⟩⟩
end Go.Ab.S8
namespace Go.Ab.S8
variable {α:Type} {h:H}
theorem BO.ext {h':H} {b q3:Nat} {o p m:Sl} {rows:List Sl} {g:Gm} (B:BO h b q3 o p m rows g) (x:Ext h h'):BO h' b q3 o p m rows g:=
 B.keep x.1 (x.2 _ (by have:=B.lt; have:=B.nx; omega)) fun i hi=>x.2 i (B.lti i hi)
end Go.Ab.S8
namespace Go.Ab.S8
theorem zdr:∀ n, n < 1000->zfy (decD n) = false ∧ numF (decD n) = (n:Int) ∧ (decD n).all jj = true ∧ (decD n) ≠ []:=by decide +kernel
theorem zok {c:UInt8} (h:jj c = true):ja c.toNat = 4:=by
 simp only [jj, Bool.and_eq_true, decide_eq_true_eq] at h
 unfold ja
 rw [if_neg (by omega), if_neg (by omega), if_neg (by omega), if_pos (by omega)]
theorem Sc.num (p:List UInt8) {w r:List UInt8} (hne:w ≠ []) (hd:w.all jj = true) (hb:zfy w = false) (hr:∀ b s, r = b :: s->jj b = false) :
  Sc (p ++ (w ++ r)) p.length [⟨4, p.length, w, numF w⟩] (p.length + w.length):=by
 cases w with
 | nil=>exact absurd rfl hne
 | cons c w=>
  rw [List.all_cons, Bool.and_eq_true] at hd
  have hk:=zok hd.1
  have hall:∀ b ∈ w, jj b = true:=List.all_eq_true.1 hd.2
  have hg:(p ++ ((c :: w) ++ r))[p.length]? = some c:=by simp
  have htw:(w ++ r).takeWhile jj = w:=by
   cases r with
   | nil=>rw [List.append_nil]; exact yu jj w hall
   | cons b s=>rw [yj jj b s (hr b s rfl)]; exact yu jj w hall
  have hword:zx (p ++ ((c :: w) ++ r)) p.length c = c :: w:=by
   unfold zx
   rw [zhr, hk]
   unfold zaq
   rw [if_pos rfl]
   rw [List.cons_append, List.drop_succ_cons, List.drop_zero, htw, Nat.add_comm, List.take_succ_cons, List.take_left]
  have ht:tokF (p ++ ((c :: w) ++ r)) p.length c = (⟨4, p.length, c :: w, numF (c :: w)⟩, 0):=by
   unfold tokF
   rw [hword, hk, if_neg (by omega), if_neg (by omega), if_pos rfl, hb]
   rfl
  have h1:=hd.1
  simp only [jj, Bool.and_eq_true, decide_eq_true_eq] at h1
  have hbl:yt c = false:=by
   unfold yt
   rw [decide_eq_false (by omega), decide_eq_false (by omega)]; rfl
  have hm:zam c = false:=decide_eq_false (by omega)
  have:=Sc.tok (text:=p ++ ((c :: w) ++ r)) (n:=p.length) (m:=p.length + (c :: w).length) (ts:=[]) hg hbl hm (by rw [ht]) (by
   rw [hword]
   exact .nil (by simp))
  rw [ht] at this
  exact this
theorem Sx.num (p:List UInt8) (n:Nat) (hn:n < 1000) (r:List UInt8) (hr:∀ b s, r = b :: s->jj b = false):Sx p (decD n ++ r) [⟨4, p.length, decD n, (n:Int)⟩] (p ++ decD n) r:=by
 obtain ⟨h1, h2, h3, h4⟩:=zdr n hn
 refine ⟨by simp, ?_⟩
 have:=Sc.num p h4 h3 h1 hr
 rw [h2] at this
 rw [List.length_append]
 exact this
theorem Sx.line (p r:List UInt8):Sx p (10 :: r) [⟨1, p.length, [10], 0⟩] (p ++ [10]) r:=⟨by simp, by have:=Sc.line p r; simpa using this⟩
theorem Sx.nil (p r:List UInt8):Sx p r [] p r:=⟨rfl, .nil (by simp)⟩
theorem Sx.blank (p r:List UInt8) {c:UInt8} (h:yt c = true):Sx p (c :: r) [] (p ++ [c]) r:=⟨by simp, by
 rw [List.length_append]
 exact .blank (get_at p c r) h (.nil (by simp))⟩
theorem Sx.rem (p w r:List UInt8) (hw:∀ b ∈ w, b ≠ 10):Sx p (35 :: (w ++ 10 :: r)) [] (p ++ 35 :: w) (10 :: r):=by
 refine ⟨by simp, ?_⟩
 have hg:(p ++ 35 :: (w ++ 10 :: r))[p.length]? = some 35:=by simp
 have hrm:remF ((p ++ 35 :: (w ++ 10 :: r)).drop p.length) = (35 :: w).length:=by
  rw [zhr]
  unfold remF
  have:(35 :: (w ++ 10 :: r)) = (35 :: w) ++ 10 :: r:=rfl
  rw [this, yj _ 10 r (by decide), yu _ _ (fun b hb=>by
   rcases List.mem_cons.1 hb with rfl | hb
   ·decide
   ·simpa using hw b hb)]
 rw [List.length_append]
 refine .rem hg rfl rfl ?_
 rw [hrm]
 exact .nil (by simp)
def zhy (a:List UInt8):Prop:=∀ b ∈ a, yt b = true
theorem Sx.blanks:∀ (a p r:List UInt8), zhy a->Sx p (a ++ r) [] (p ++ a) r
 | [], p, r, _=>by simpa using Sx.nil p r
 | b :: a, p, r, h=>by
  have h1:=Sx.blank p (a ++ r) (h b List.mem_cons_self)
  have h2:=Sx.blanks a (p ++ [b]) r fun c hc=>h c (List.mem_cons_of_mem _ hc)
  have:=h1.trans h2
  simpa using this
def LineN (a:List UInt8):Prop:=∀ p r, ∃ ts, Sx p (a ++ r) ts (p ++ a) r ∧ ∀ t ∈ ts, t.kind = 1
theorem zms {a:List UInt8} (h:zhy a):LineN a:=fun p r=>⟨[], Sx.blanks a p r h, fun t ht=>by cases ht⟩
def NzA (st:Bool) (c:UInt8) (add:List UInt8):Prop:=if c = 32 then zhy add else if st = true then LineN add else add = []
inductive Nz:Bool->List UInt8->List UInt8->Prop
 | nil {st:Bool}:Nz st [] []
 | cons {st:Bool} {c:UInt8} {s add out:List UInt8}:NzA st c add->Nz (decide (c = 10)) s out->Nz st (c :: s) (add ++ c :: out)
def jr (st:Bool):List UInt8->Bool
 | []=>st
 | c :: s=>jr (decide (c = 10)) s
theorem Nz.split:∀ {a b out:List UInt8} {st:Bool}, Nz st (a ++ b) out->∃ oa ob, out = oa ++ ob ∧ Nz st a oa ∧ Nz (jr st a) b ob
 | [], b, out, st, h=>⟨[], out, rfl, .nil, h⟩
 | c :: a, b, out, st, h=>by
  cases h with
  | cons h1 h2=>
   rename_i add out
   obtain ⟨oa, ob, e, g1, g2⟩:=Nz.split h2
   exact ⟨add ++ c :: oa, ob, by rw [e]; simp, .cons h1 g1, g2⟩
def zgj (w:List UInt8):Prop:=∀ b ∈ w, b ≠ 32 ∧ b ≠ 10
theorem Nz.word':∀ {w out:List UInt8}, zgj w->Nz false w out->out = w ∧ jr false w = false
 | [], out, _, h=>by cases h; exact ⟨rfl, rfl⟩
 | c :: w, out, hp, h=>by
  cases h with
  | cons h1 h2=>
   have hc:=hp c List.mem_cons_self
   unfold NzA at h1
   rw [if_neg hc.1, if_neg (by decide)] at h1
   rw [decide_eq_false hc.2] at h2
   obtain ⟨e1, e2⟩:=Nz.word' (fun b hb=>hp b (List.mem_cons_of_mem _ hb)) h2
   refine ⟨by rw [h1, e1]; rfl, ?_⟩
   rw [jr, decide_eq_false hc.2]; exact e2
theorem Nz.word {w out:List UInt8} (hne:w ≠ []) (hp:zgj w) (h:Nz true w out):∃ add, out = add ++ w ∧ LineN add ∧ jr true w = false:=by
 cases h with
 | nil=>exact absurd rfl hne
 | cons h1 h2=>
  rename_i c s add out
  have hc:=hp c List.mem_cons_self
  unfold NzA at h1
  rw [if_neg hc.1, if_pos rfl] at h1
  rw [decide_eq_false hc.2] at h2
  obtain ⟨e1, e2⟩:=Nz.word' (fun b hb=>hp b (List.mem_cons_of_mem _ hb)) h2
  refine ⟨add, by rw [e1], h1, ?_⟩
  rw [jr, decide_eq_false hc.2]; exact e2
theorem Nz.sp {w out:List UInt8} (hp:zgj w) (h:Nz false (32 :: w) out):∃ bl, out = bl ++ 32 :: w ∧ zhy bl ∧ jr false (32 :: w) = false:=by
 cases h with
 | cons h1 h2=>
  rename_i add out
  unfold NzA at h1
  rw [if_pos rfl] at h1
  rw [decide_eq_false (by decide)] at h2
  obtain ⟨e1, e2⟩:=Nz.word' hp h2
  exact ⟨add, by rw [e1], h1, e2⟩
theorem Nz.feed {out:List UInt8} (h:Nz false [10] out):out = [10]:=by
 cases h with
 | cons h1 h2=>
  cases h2
  unfold NzA at h1
  rw [if_neg (by decide), if_neg (by decide)] at h1
  rw [h1]; rfl
theorem zaf (n:Nat) (hn:n < 1000):zgj (decD n):=by
 have h:=List.all_eq_true.1 (zdr n hn).2.2.1
 intro b hb
 have:=h b hb
 simp only [jj, Bool.and_eq_true, decide_eq_true_eq] at this
 refine ⟨fun e=>?_, fun e=>?_⟩ <;> (subst e; revert this; decide)
def zei (r:List UInt8):Prop:=∀ b s, r = b :: s->jj b = false
theorem zmm {bl r:List UInt8} (h:zhy bl):zei (bl ++ 32 :: r):=by
 intro b s e
 cases bl with
 | nil=>cases e; rfl
 | cons c bl=>
  cases e
  have:=h b List.mem_cons_self
  simp only [yt, Bool.or_eq_true, decide_eq_true_eq] at this
  unfold jj
  rcases this with h | h
  ·rw [decide_eq_false (by omega)]; rfl
  ·rw [decide_eq_false (by omega)]; rfl
theorem zeq (r:List UInt8):zei (10 :: r):=by intro b s e; cases e; rfl
theorem zlx {n:Nat} (hn:n < 1000) {out:List UInt8} (h:Nz false (32 :: decD n) out):(∀ r, zei (out ++ r)) ∧ ∀ p r, zei r->∃ t, Sx p (out ++ r) [t] (p ++ out) r ∧ t.kind = 4 ∧ t.num = (n:Int):=by
 obtain ⟨bl, rfl, hb, _⟩:=h.sp (zaf n hn)
 refine ⟨fun r=>?_, fun p r hr=>?_⟩
 ·rw [List.append_assoc, List.cons_append]; exact zmm hb
 ·have h1:=Sx.blanks bl p (32 :: (decD n ++ r)) hb
  have h2:=Sx.blank (p ++ bl) (decD n ++ r) (c:=32) rfl
  have h3:=Sx.num (p ++ bl ++ [32]) n hn r hr
  refine ⟨_, by have:=(h1.trans h2).trans h3; simpa using this, rfl, rfl⟩
theorem sp_colon {out:List UInt8} (h:Nz false [32, 58] out):(∀ r, zei (out ++ r)) ∧ ∀ p r, ∃ t, Sx p (out ++ r) [t] (p ++ out) r ∧ t.kind = 5 ∧ t.text = [58]:=by
 obtain ⟨bl, rfl, hb, _⟩:=h.sp (w:=[58]) (fun b hb=>by obtain rfl:=List.mem_singleton.1 hb; decide)
 refine ⟨fun r=>?_, fun p r=>?_⟩
 ·rw [List.append_assoc, List.cons_append]; exact zmm hb
 ·have h1:=Sx.blanks bl p (32 :: 58 :: r) hb
  have h2:=Sx.blank (p ++ bl) (58 :: r) (c:=32) rfl
  have h3:=Sx.sign (p ++ bl ++ [32]) 58 r _ rfl (by decide) (by decide)
  refine ⟨_, by have:=(h1.trans h2).trans h3; simpa using this, rfl, rfl⟩
theorem sp_nums:∀ {l:List Int} {out:List UInt8}, (∀ v ∈ l, 0≤v ∧ v < 1000)->Nz false (l.flatMap mvS) out->jr false (l.flatMap mvS) = false ∧ (∀ r, zei r->zei (out ++ r)) ∧ ∀ p r, zei r->∃ ms, Sx p (out ++ r) ms (p ++ out) r ∧ (∀ t ∈ ms, t.kind = 4) ∧ ms.map Tok.num = l
 | [], out, _, h=>by
  cases h
  exact ⟨rfl, fun r hr=>hr, fun p r hr=>⟨[], by simpa using Sx.nil p r, fun t ht=>(by cases ht), rfl⟩⟩
 | v :: l, out, hl, h=>by
  rw [List.flatMap_cons] at h
  obtain ⟨oa, ob, rfl, h1, h2⟩:=h.split
  have hv:=hl v List.mem_cons_self
  obtain ⟨n, rfl⟩:=Int.eq_ofNat_of_zero_le hv.1
  have hn:n < 1000:=by omega
  have h1:Nz false (32 :: decD n) oa:=h1
  have hlast:jr false (mvS (n:Int)) = false:=(h1.sp (zaf n hn)).choose_spec.2.2
  rw [hlast] at h2
  obtain ⟨k1, k2, k3⟩:=sp_nums (fun w hw=>hl w (List.mem_cons_of_mem _ hw)) h2
  obtain ⟨g1, g2⟩:=zlx hn h1
  refine ⟨?_, fun r hr=>by rw [List.append_assoc]; exact g1 _, fun p r hr=>?_⟩
  ·have happ:∀ (a b:List UInt8) (st:Bool), jr st (a ++ b) = jr (jr st a) b:=by
    intro a
    induction a with
    | nil=>intro b st; rfl
    | cons c a ih=>intro b st; exact ih b _
   rw [List.flatMap_cons, happ, hlast]; exact k1
  ·obtain ⟨t, t1, t2, t3⟩:=g2 p (ob ++ r) (k2 r hr)
   obtain ⟨ms, m1, m2, m3⟩:=k3 (p ++ oa) r hr
   refine ⟨t :: ms, by have:=t1.trans m1; simpa using this, fun u hu=>?_, by rw [List.map_cons, t3, m3]⟩
   rcases List.mem_cons.1 hu with rfl | hu
   ·exact t2
   ·exact m2 u hu
theorem zak:∀ (a b:List UInt8) (st:Bool), jr st (a ++ b) = jr (jr st a) b
 | [], _, _=>rfl
 | _ :: a, b, _=>zak a b _
end Go.Ab.S8
