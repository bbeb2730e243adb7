/-
  Append onto a row of the call's own: the step.
-/
import Derived.Test.YthlpmghodgiknaaEvP
namespace Go.Ev
open Go Go.RowKit

section
variable {N B : Nat} {ok0 : Nat → Prop} {w0 : World} {E : Entry} {C : Conc} {H : Nat → Option Obj} {F : Nat → Bool} {w : World} {P : Program}

theorem below_grown {w' : World} {row : Option Nat} (hg : w.grownBy w' row) (hB : B ≤ w.heap.size) (hr : ∀ k, row = some k → B ≤ k) : Below B w w' := (Below.refl B w).grown hg hB hr

/-- 'append' onto a row of the call's own. -/
theorem s_append (h : SimH B ok0 w0 C H F w) {o n sz : Nat} {ob : Obj} {t ty e : TypeId} {z : List AV} {y : AV} {v vy : Value} {news : List (List AV)} (ho : H o = some ob) (hF : F o = false) (hn : n = ob.es.length)
    (hsz : ob.sz = sz) (hty : ob.ty = e) (ht : P.underlying t = some (.slice e)) (hok : okT P e = true) (hs : P.cellsOf e = sz) (hs0 : 1 ≤ sz) (hb0 : 1 ≤ P.bytesOf e) (hz : zeroC P e = some z) (hzl : z.length = P.cellsOf e)
    (hr : Rep C (okb B ok0 C H F w) w (.sl o 0 n) v) (ha : appended H sz y = some news) (hy : Rep C (okb B ok0 C H F w) w y vy) (hall : ∀ cs ∈ news, cs.length = sz ∧ ∀ u ∈ cs, u.isCell = true)
    (hbytes : (n + news.length) * P.bytesOf e ≤ 140737488355328) (hself : ∀ cs ∈ news, o ∉ AV.keysL cs) (href : o ∉ ob.refs) {rs : List Nat} (hrs : ∀ cs ∈ news, ∀ k ∈ AV.keysL cs, k ∈ rs) (hrs' : ∀ k ∈ rs, ∃ cs ∈ news, k ∈ AV.keysL cs) :
    ∃ (C' : Conc) (v' : Value) (w' : World), (Builtin.append_ #[t, t] ty #[v, vy]).run P w = .ok v' w' ∧ (∀ x, x ≠ o → C' x = C x) ∧
      SimH B ok0 w0 C' (setH (mapH [o] H) o { ob with es := ob.es ++ news, refs := rs ++ ob.refs }) F w' ∧
      (∀ b, okb B ok0 C H F w b → okb B ok0 C' (setH (mapH [o] H) o { ob with es := ob.es ++ news, refs := rs ++ ob.refs }) F w' b ∧ w'.heap[b]? = w.heap[b]?) ∧
      ∀ ok', Rep C' ok' w' (.sl o 0 (n + news.length)) v' := by
  obtain ⟨A, c', rfl, hsrc, hdom⟩ := appended_rep h ha hy hall
  have hrow := h.row o ob ho
  obtain ⟨i, zv, hi, hiz, hcz, _, _⟩ := zero_cells (P := P) (C := C) (ok := okb B ok0 C H F w) (w := w) hz
  have hnm : n + news.length ≤ 140737488355328 := Nat.le_trans (Nat.le_mul_of_pos_right _ hb0) hbytes
  have hself' : o ∉ rs := fun hm => by obtain ⟨cs, h1, h2⟩ := hrs' o hm; exact hself cs h1 h2
  -- nothing is appended
  by_cases hm : news = []
  · subst hm
    have hrs0 : rs = [] := List.eq_nil_iff_forall_not_mem.2 fun k hk => by obtain ⟨cs, h1, _⟩ := hrs' k hk; simp at h1
    subst hrs0
    have hob : setH (mapH [o] H) o { ob with es := ob.es ++ [], refs := [] ++ ob.refs } = mapH [o] H := by
      funext x
      by_cases ex : x = o
      · subst ex; rw [setH_self]; simp [mapH, ho, scrubO_id (ks := [x]) (o := ob) (by simpa using fun y hy (hyx : y = x) => href (hyx ▸ hy))]
      · exact setH_ne _ _ ex
    rw [hob]
    have hv : ∃ A0 c0, v = .slice A0 n c0 ∧ n ≤ c0 := by
      rcases hr.sl_inv with ⟨L, c, _, hv, h1, _⟩ | ⟨_, hv, _, h2⟩
      · exact ⟨_, _, hv, h1⟩
      · exact ⟨none, 0, by rw [hv, h2], by omega⟩
    obtain ⟨A0, c0, rfl, hc0⟩ := hv
    refine ⟨C, _, w, run_append_zero ht hok A0 n c0 hc0 A c', fun _ _ => rfl, h.scrub [o], fun b hb => ⟨okb_mapH.1 hb, rfl⟩, fun ok' => ?_⟩
    simp only [List.length_nil, Nat.add_zero]
    rcases hr.sl_inv with ⟨L, c, hL, hv, h1, h2⟩ | ⟨hC, hv, h1, h2⟩
    · rw [hv]; exact .sl hL h1 h2
    · rw [hv, h2]; exact .nilsl hC
  obtain ⟨ad, rfl, hcell⟩ := hsrc hm
  have hm0 : 0 < news.length := List.length_pos_iff.2 hm
  -- the cells of the source
  have hchoice : ∃ f : Nat → Nat → Value, ∀ (i : Nat) (cs : List AV) (j : Nat) (u : AV), news[i]? = some cs → cs[j]? = some u → w.cell? (ad.add (i * sz + j)) = some (f i j) ∧ Rep C (okb B ok0 C H F w) w u (f i j) := by
    refine ⟨fun i j => (w.cell? (ad.add (i * sz + j))).getD undef, fun i cs j u h1 h2 => ?_⟩
    obtain ⟨x, g1, g2⟩ := hcell i cs j u h1 h2
    simp only [g1, Option.getD_some]
    exact ⟨trivial, g2⟩
  obtain ⟨f, hf⟩ := hchoice
  have hat : ∀ {q : Nat} {u : Value}, (flatV f sz news.length)[q]? = some u → ∃ cs a, news[q / sz]? = some cs ∧ cs[q % sz]? = some a ∧ u = f (q / sz) (q % sz) ∧ q / sz * sz + q % sz = q := fun {q u} hq => by
    obtain ⟨_, h2, h3, h4, h5⟩ := flatV_inv hq
    have hl := (hall news[q / sz] (List.getElem_mem h3)).1
    exact ⟨news[q / sz], news[q / sz][q % sz]'(by omega), List.getElem?_eq_getElem h3, List.getElem?_eq_getElem (by omega), h2, h5⟩
  have hl : (flatV f sz news.length).length = news.length * sz := by simp [flatV]
  have hnews : ∀ j u, (flatV f sz news.length)[j]? = some u → w.cell? (ad.add j) = some u := fun q u hq => by
    obtain ⟨cs, a, h1, h2, rfl, h4⟩ := hat hq
    have := (hf _ cs _ a h1 h2).1
    rwa [h4] at this
  have h1c : ∀ u ∈ flatV f sz news.length, u.oneCell' = true := fun u hu => by
    obtain ⟨q, hq⟩ := List.getElem?_of_mem hu
    obtain ⟨cs, a, h1, h2, rfl, h4⟩ := hat hq
    exact (hf _ cs _ a h1 h2).2.oneCell ((hall cs (List.mem_of_getElem? h1)).2 a (List.mem_of_getElem? h2))
  -- the row at hand
  have hown : ∃ xs, w.ownsRow B e sz v n xs ∧ (∀ b, v.ownBlock = some b → ∃ L, C o = some L ∧ L.block = b) ∧ ∀ (i : Nat) (cs : List AV) (j : Nat) (u : AV), ob.es[i]? = some cs → cs[j]? = some u → ∃ x, xs[i * sz + j]? = some x ∧ Rep C (okb B ok0 C H F w) w u x := by
    have hp := hrow.place
    rcases hr.sl_inv with ⟨L, c, hL, rfl, g1, g2⟩ | ⟨hC, rfl, _, rfl⟩
    · rw [hL] at hp
      obtain ⟨p1, p2, cur, p3, p4, p5, p6, p7⟩ := hp
      have e1 : L.sz = sz := p1.trans hsz
      have e2 : L.ty = e := p2.trans hty
      have g2' : c = L.cap := by omega
      subst g2'
      have hle : n * sz ≤ cur.size := by rw [p4, e1]; exact Nat.mul_le_mul_right _ g1
      refine ⟨cur.toList.take (n * sz), ⟨by rw [List.length_take, Array.length_toList]; omega, .inr ⟨L.block, L.cap, cur, by rw [Nat.zero_mul], h.blk o ob L ho hL, by rw [← e2]; exact p3, g1, p6, by rw [p4, e1], rfl⟩⟩,
        fun b hb => ⟨L, hL, by simpa [Value.ownBlock] using hb⟩, fun i cs j u hi hj => ?_⟩
      obtain ⟨x, q1, q2⟩ := p7 i cs j u hi hj
      refine ⟨x, ?_, q2⟩
      have hi' : i < n := by rw [hn]; exact (List.getElem?_eq_some_iff.1 hi).1
      have hj' : j < sz := by rw [← hsz, ← hrow.cells cs (List.mem_of_getElem? hi)]; exact (List.getElem?_eq_some_iff.1 hj).1
      have hlt : i * sz + j < n * sz := by
        have : (i + 1) * sz ≤ n * sz := Nat.mul_le_mul_right _ hi'
        rw [Nat.add_mul, Nat.one_mul] at this
        omega
      rw [List.getElem?_take, if_pos hlt, ← e1]
      simpa using q1
    · rw [hC] at hp
      simp only at hp
      exact ⟨[], ⟨by simp, .inl ⟨rfl, rfl⟩⟩, fun b hb => by simp [Value.ownBlock] at hb, fun i cs j u hi hj => by rw [hp] at hi; simp at hi⟩
  obtain ⟨xs, hown, hplace, hxs⟩ := hown
  obtain ⟨v', w', hrun, hown', hgrow, hnil, hwhere⟩ := run_append_own_at (P := P) w B t ty e i zv sz (P.bytesOf e) ht hi hiz ((cellsOf_info hi).symm.trans hs) (bytesOf_info hi).symm (by rw [← hcz.1, hzl, hs]) hs0 v n xs hown ad news.length c' (flatV f sz news.length) hl hnews h1c (by simp only [maxLen]; omega) hbytes h.base
  rcases hown'.2 with ⟨_, hbad⟩ | ⟨g, cap, cur, rfl, hBg, hg, hncap, hcapm, hcurs, htake⟩
  · omega
  have hg' : (v.ownBlock = some g) ∨ g = w.heap.size := by
    rcases hwhere with hw1 | hw1
    · exact .inl hw1.symm
    · right; simpa [Value.ownBlock] using hw1
  have hbel : Below B w w' := below_grown hgrow h.base fun k hk => by obtain ⟨L, g1, rfl⟩ := hplace k hk; exact h.blk o ob L ho g1
  have hscr := h.scrub [o]
  have hgok : ok0 g := by
    rcases hg' with h1 | h1
    · obtain ⟨L, g1, g2⟩ := hplace g h1
      rw [← g2]; exact h.okrow o ob L ho g1
    · rw [h1]; exact h.up _ (Nat.le_refl _)
  have hokne : ∀ b, okb B ok0 C (mapH [o] H) F w b → b ≠ g ∧ w'.heap[b]? = w.heap[b]? := fun b hb => by
    have hb' := okb_mapH.2 hb
    have hne : ∀ b', v.ownBlock = some b' → b ≠ b' := fun b' h1 e1 => by
      obtain ⟨L, g1, g2⟩ := hplace b' h1
      exact hb'.2.2 o ob L ho hF g1 (g2.trans e1.symm)
    refine ⟨?_, hgrow.block b hb'.1 fun e1 => hne b e1.symm rfl⟩
    rcases hg' with h1 | h1
    · exact hne g h1
    · have := hb'.1; omega
  have hrows : ∀ x o'' L', x ≠ o → mapH [o] H x = some o'' → C x = some L' → w'.heap[L'.block]? = w.heap[L'.block]? ∧ L'.block ≠ g := fun x o'' L' hx h1 h2 => by
    have hlt := hscr.lt h1 h2
    have hne : ∀ b', v.ownBlock = some b' → L'.block ≠ b' := fun b' q1 q2 => by
      obtain ⟨L, g1, g2⟩ := hplace b' q1
      exact hx (hscr.inj x o o'' (scrubO [o] ob) L' L h1 (by simp only [mapH, ho, Option.map_some]) h2 g1 (q2.trans g2.symm))
    refine ⟨hgrow.block _ hlt fun e1 => hne _ e1.symm rfl, ?_⟩
    rcases hg' with q | q
    · exact hne g q
    · omega
  obtain ⟨fin, fok⟩ := hscr.turn (k := o) (o' := { ob with es := ob.es ++ news, refs := rs ++ ob.refs }) (L := { block := g, ty := e, sz := sz, cap := cap }) hbel hBg hgok (fun b hb hn => hgrow.block b hb fun e1 => by
      obtain ⟨L, g1, g2⟩ := hplace b e1.symm
      exact hn (by rw [← g2]; exact h.okrow o ob L ho g1)) (fun b hb => (hokne b hb).2) hrows (fun b hb => (hokne b hb).1)
    (fun x o'' hx h1 h2 => by
      simp only [mapH, Option.map_eq_some_iff] at h1
      obtain ⟨o3, _, rfl⟩ := h1
      exact (scrubO_refs h2).2 (by simp))
    (fun hok' => by
      refine ⟨fun cs hcs => ?_, fun cs hcs u hu => ?_, fun cs hcs x hx => ?_, ?_⟩
      · rcases List.mem_append.1 hcs with q | q
        · exact hrow.cells cs q
        · exact (hall cs q).1.trans hsz.symm
      · rcases List.mem_append.1 hcs with q | q
        · exact hrow.one cs q u hu
        · exact .inl ((hall cs q).2 u hu)
      · rcases List.mem_append.1 hcs with q | q
        · exact List.mem_append.2 (.inr (hrow.refs cs q x hx))
        · exact List.mem_append.2 (.inl (hrs cs q x hx))
      · rw [setC_self]
        refine ⟨hsz.symm, hty.symm, cur, hg, hcurs, by simp only [List.length_append]; omega, hcapm, fun q cs j u hq hj => ?_⟩
        simp only at hq ⊢
        have hcs : cs.length = sz := by
          rcases List.mem_append.1 (List.mem_of_getElem? hq) with q | q
          · exact (hrow.cells cs q).trans hsz
          · exact (hall cs q).1
        have hq' : q < n + news.length := by have := (List.getElem?_eq_some_iff.1 hq).1; simp only [List.length_append] at this; omega
        have hj' : j < sz := by rw [← hcs]; exact (List.getElem?_eq_some_iff.1 hj).1
        have hlt : q * sz + j < (n + news.length) * sz := by
          have : (q + 1) * sz ≤ (n + news.length) * sz := Nat.mul_le_mul_right _ hq'
          rw [Nat.add_mul, Nat.one_mul] at this
          omega
        have hcur : cur[q * sz + j]? = (xs ++ flatV f sz news.length)[q * sz + j]? := by
          rw [← htake, List.getElem?_take, if_pos hlt]; simp
        have hmono : ∀ {u : AV} {x : Value}, o ∉ u.keys → Rep C (okb B ok0 C H F w) w u x → Rep (setC C o (some { block := g, ty := e, sz := sz, cap := cap })) (okb B ok0 (setC C o (some { block := g, ty := e, sz := sz, cap := cap })) (setH (mapH [o] H) o { ob with es := ob.es ++ news, refs := rs ++ ob.refs }) F w') w' u x :=
          fun {u x} hno hr => hr.mono (fun b hb => hok' b (okb_mapH.1 hb)) (fun b hb => (hokne b (okb_mapH.1 hb)).2) fun k hk => setC_ne _ _ (by rintro rfl; exact hno hk)
        rw [hcur]
        by_cases hqn : q < n
        · rw [List.getElem?_append_left (by omega)] at hq
          obtain ⟨x, g1, g2⟩ := hxs q cs j u hq hj
          have hxl : q * sz + j < xs.length := (List.getElem?_eq_some_iff.1 g1).1
          refine ⟨x, by rw [List.getElem?_append_left hxl]; exact g1, hmono (fun hk => href (hrow.refs cs (List.mem_of_getElem? hq) o (mem_keysL.2 ⟨j, u, hj, hk⟩))) g2⟩
        · rw [List.getElem?_append_right (by omega)] at hq
          obtain ⟨_, g2⟩ := hf _ cs j u hq hj
          have hqm : q - ob.es.length < news.length := (List.getElem?_eq_some_iff.1 hq).1
          have e1 : q * sz + j - xs.length = (q - ob.es.length) * sz + j := by
            rw [hown.1, Nat.sub_mul, ← hn]
            have : n * sz ≤ q * sz := Nat.mul_le_mul_right _ (by omega)
            omega
          refine ⟨f (q - ob.es.length) j, ?_, hmono (fun hk => hself cs (List.mem_of_getElem? hq) (mem_keysL.2 ⟨j, u, hj, hk⟩)) g2⟩
          rw [List.getElem?_append_right (by rw [hown.1]; have : n * sz ≤ q * sz := Nat.mul_le_mul_right _ (by omega); omega), e1]
          exact flatV_get hqm hj')
    (fun x hx _ hn => by
      rcases List.mem_append.1 hx with q | q
      · obtain ⟨cs, g1, g2⟩ := hrs' x q
        exact hdom cs g1 x g2 (mapH_none.1 hn)
      · exact h.wf o ob x ho q (mapH_none.1 hn))
  refine ⟨_, _, w', hrun, fun x hx => setC_ne _ _ hx, fin, fun b hb => ⟨fok b (okb_mapH.1 hb), (hokne b (okb_mapH.1 hb)).2⟩, fun ok' => ?_⟩
  have := Rep.sl (C := setC C o (some { block := g, ty := e, sz := sz, cap := cap })) (ok := ok') (w := w') (o := o) (i := 0) (n := n + news.length) (c := cap) (setC_self _ _ _) hncap (by simp)
  simpa using this

end
end Go.Ev
