/- Ideal runs of the values' functions. Ideal runs: which values may be. Ideal runs: the growing dictionary. Ideal runs: a value is added to the dictionary. Ideal runs: search. Ideal runs: rows that are sorted in place; insertion sort. Ideal runs: clones, slices that grow, search in a list. Ideal runs: bits.Len; the sort of a short row. Ideal runs: what is sorted. Ideal runs: are two lists of numbers the same? Ideal runs: are two lists the same? The chapter's example. Ideal runs: the chapter's example comes out as it says. Ideal runs: a nil dictionary. -/
import Derived.Test.YtojhkbbnkhfnhaaGreatDoorCode
import Derived.Test.YtojhkbbnkhfnhaaGreatDoorStep
import Derived.Sort.Defs
import Derived.Test.YtojhkbbnkhfnhaaGreatDoorWrap
namespace Go.Proofs.YtojhkbbnkhfnhaaGreatDoor
attribute [local go_sem] Ya ZT ZV ZW ZO ZF ZM ZI ZK ZB ZC ZJ ZP ZQ ZX ZN ZG ZU Zp Zm Yg ZS Yq put lk Od.v Za ZE ZA YB Ym Yn Yo unx YE DV.isU DV.cells hget Yb Yj Yd ZL splice Ye mat Yi YD one_bool one_int one_str one_nilp one_ref one_elem one_nils one_list one_row one_nilm one_map one_nilf one_func one_nili one_ifc one_agg one_tup one_undef one_fresh
attribute [local go_sem ↓] ZH
set_option linter.unusedVariables false
set_option linter.unusedSimpArgs false
set_option maxRecDepth 10000

/-- A value. -/
structure V where
  k : Int
  n : Int
  s : ByteArray
  t : Bool
abbrev V.d (v : V) : DV := .agg [.int .i64 v.k, .int .i64 v.n, .str v.s, .bool v.t]
def V0 : V := ⟨0, 0, ⟨#[]⟩, false⟩

theorem run141 (a : Int) (h : ZD) : E X 141 [.int .i64 a] h = some (.bool false, h) := by
  rw [Yc (X := X) _ b141 _ rfl rfl]; unfold b141; (repeat (first | rw [Zj] | rw [Zc (by simp [go_sem]; exact ⟨rfl, rfl⟩)] | rw [Zv (by simp [lk, Za, Od.v]; exact rfl)] | rw [Zp] | rw [Zm] | rw [Zl] | rw [Zy] | rw [Zq] | rw [Zt] | rw [Zo] | rw [Zn] | rw [Zk] | rw [Zg] | rw [Zh] | rw [Zd (by decide)] | rw [Zi] | rw [Ze] | rw [Zf] | rw [Zb (by decide)] | rw [Zz] | rw [Zu (by simp [go_sem]; exact ⟨rfl, rfl⟩)] | rw [Zw (by simp [lk, Za, Od.v]; exact rfl)] | rw [Zx])); simp [Zr, Zs, ZY, go_sem, fin, Yu, Yt, YA, Yy, YC]
theorem beq_bytes (a : ByteArray) : (a == a) = true := by
  show (a.data == a.data) = true
  simp
theorem run142 (a : ByteArray) (h : ZD) : E X 142 [.str a] h = some (.bool false, h) := by
  rw [Yc (X := X) _ b142 _ rfl rfl]; unfold b142; (repeat (first | rw [Zj] | rw [Zc (by simp [go_sem, beq_bytes]; exact ⟨rfl, rfl⟩)] | rw [Zv (by simp [lk, Za, Od.v, beq_bytes]; exact rfl)] | rw [Zp] | rw [Zm] | rw [Zl] | rw [Zy] | rw [Zq] | rw [Zt] | rw [Zo] | rw [Zn] | rw [Zk] | rw [Zg] | rw [Zh] | rw [Zd (by decide)] | rw [Zi] | rw [Ze] | rw [Zf] | rw [Zb (by decide)] | rw [Zz] | rw [Zu (by simp [go_sem, beq_bytes]; exact ⟨rfl, rfl⟩)] | rw [Zw (by simp [lk, Za, Od.v, beq_bytes]; exact rfl)] | rw [Zx])); simp [Zr, Zs, ZY, go_sem, fin, Yu, Yt, YA, Yy, YC, beq_bytes]
theorem run108 (a : Bool) (h : ZD) : E X 108 [.bool a] h = some (.int .i64 (if a then 1 else 0), h) := by
  cases a
  · rw [Yc (X := X) _ b108 _ rfl rfl]; unfold b108; (repeat (first | rw [Zj] | rw [Zc (by simp [go_sem]; exact ⟨rfl, rfl⟩)] | rw [Zv (by simp [lk, Za, Od.v]; exact rfl)] | rw [Zp] | rw [Zm] | rw [Zl] | rw [Zy] | rw [Zq] | rw [Zt] | rw [Zo] | rw [Zn] | rw [Zk] | rw [Zg] | rw [Zh] | rw [Zd (by decide)] | rw [Zi] | rw [Ze] | rw [Zf] | rw [Zb (by decide)] | rw [Zz] | rw [Zu (by simp [go_sem]; exact ⟨rfl, rfl⟩)] | rw [Zw (by simp [lk, Za, Od.v]; exact rfl)] | rw [Zx])); simp [Zr, Zs, ZY, go_sem, fin, Yu, Yt, YA, Yy, YC]
  · rw [Yc (X := X) _ b108 _ rfl rfl]; unfold b108; (repeat (first | rw [Zj] | rw [Zc (by simp [go_sem]; exact ⟨rfl, rfl⟩)] | rw [Zv (by simp [lk, Za, Od.v]; exact rfl)] | rw [Zp] | rw [Zm] | rw [Zl] | rw [Zy] | rw [Zq] | rw [Zt] | rw [Zo] | rw [Zn] | rw [Zk] | rw [Zg] | rw [Zh] | rw [Zd (by decide)] | rw [Zi] | rw [Ze] | rw [Zf] | rw [Zb (by decide)] | rw [Zz] | rw [Zu (by simp [go_sem]; exact ⟨rfl, rfl⟩)] | rw [Zw (by simp [lk, Za, Od.v]; exact rfl)] | rw [Zx])); simp [Zr, Zs, ZY, go_sem, fin, Yu, Yt, YA, Yy, YC]
def cmpI (a b : Int) : Int := if a < b then -1 else if b < a then 1 else 0
theorem run106 (a b : Int) (h : ZD) : E X 106 [.int .i64 a, .int .i64 b] h = some (.int .i64 (cmpI a b), h) := by
  by_cases h1 : a < b
  · rw [Yc (X := X) _ b106 _ rfl rfl]; unfold b106; (repeat (first | rw [Zj] | rw [Zc (by simp [go_sem, run141, h1, cmpI]; exact ⟨rfl, rfl⟩)] | rw [Zv (by simp [lk, Za, Od.v, run141, h1, cmpI]; exact rfl)] | rw [Zp] | rw [Zm] | rw [Zl] | rw [Zy] | rw [Zq] | rw [Zt] | rw [Zo] | rw [Zn] | rw [Zk] | rw [Zg] | rw [Zh] | rw [Zd (by decide)] | rw [Zi] | rw [Ze] | rw [Zf] | rw [Zb (by decide)] | rw [Zz] | rw [Zu (by simp [go_sem, run141, h1, cmpI]; exact ⟨rfl, rfl⟩)] | rw [Zw (by simp [lk, Za, Od.v, run141, h1, cmpI]; exact rfl)] | rw [Zx])); simp [Zr, Zs, ZY, go_sem, fin, Yu, Yt, YA, Yy, YC, run141, h1, cmpI]
  by_cases h2 : b < a
  · rw [Yc (X := X) _ b106 _ rfl rfl]; unfold b106; (repeat (first | rw [Zj] | rw [Zc (by simp [go_sem, run141, h1, h2, cmpI]; exact ⟨rfl, rfl⟩)] | rw [Zv (by simp [lk, Za, Od.v, run141, h1, h2, cmpI]; exact rfl)] | rw [Zp] | rw [Zm] | rw [Zl] | rw [Zy] | rw [Zq] | rw [Zt] | rw [Zo] | rw [Zn] | rw [Zk] | rw [Zg] | rw [Zh] | rw [Zd (by decide)] | rw [Zi] | rw [Ze] | rw [Zf] | rw [Zb (by decide)] | rw [Zz] | rw [Zu (by simp [go_sem, run141, h1, h2, cmpI]; exact ⟨rfl, rfl⟩)] | rw [Zw (by simp [lk, Za, Od.v, run141, h1, h2, cmpI]; exact rfl)] | rw [Zx])); simp [Zr, Zs, ZY, go_sem, fin, Yu, Yt, YA, Yy, YC, run141, h1, h2, cmpI]
  · rw [Yc (X := X) _ b106 _ rfl rfl]; unfold b106; (repeat (first | rw [Zj] | rw [Zc (by simp [go_sem, run141, h1, h2, cmpI]; exact ⟨rfl, rfl⟩)] | rw [Zv (by simp [lk, Za, Od.v, run141, h1, h2, cmpI]; exact rfl)] | rw [Zp] | rw [Zm] | rw [Zl] | rw [Zy] | rw [Zq] | rw [Zt] | rw [Zo] | rw [Zn] | rw [Zk] | rw [Zg] | rw [Zh] | rw [Zd (by decide)] | rw [Zi] | rw [Ze] | rw [Zf] | rw [Zb (by decide)] | rw [Zz] | rw [Zu (by simp [go_sem, run141, h1, h2, cmpI]; exact ⟨rfl, rfl⟩)] | rw [Zw (by simp [lk, Za, Od.v, run141, h1, h2, cmpI]; exact rfl)] | rw [Zx])); simp [Zr, Zs, ZY, go_sem, fin, Yu, Yt, YA, Yy, YC, run141, h1, h2, cmpI]
def ltS (a b : ByteArray) : Bool := Op.bytesLess a.toList b.toList
def cmpS (a b : ByteArray) : Int := if ltS a b then -1 else if !(ltS a b || a == b) then 1 else 0
theorem run107 (a b : ByteArray) (h : ZD) : E X 107 [.str a, .str b] h = some (.int .i64 (cmpS a b), h) := by
  cases h1 : Op.bytesLess a.toList b.toList
  · cases h2 : (a == b)
    · rw [Yc (X := X) _ b107 _ rfl rfl]; unfold b107; (repeat (first | rw [Zj] | rw [Zc (by simp [go_sem, run142, h1, h2, cmpS, ltS]; exact ⟨rfl, rfl⟩)] | rw [Zv (by simp [lk, Za, Od.v, run142, h1, h2, cmpS, ltS]; exact rfl)] | rw [Zp] | rw [Zm] | rw [Zl] | rw [Zy] | rw [Zq] | rw [Zt] | rw [Zo] | rw [Zn] | rw [Zk] | rw [Zg] | rw [Zh] | rw [Zd (by decide)] | rw [Zi] | rw [Ze] | rw [Zf] | rw [Zb (by decide)] | rw [Zz] | rw [Zu (by simp [go_sem, run142, h1, h2, cmpS, ltS]; exact ⟨rfl, rfl⟩)] | rw [Zw (by simp [lk, Za, Od.v, run142, h1, h2, cmpS, ltS]; exact rfl)] | rw [Zx])); simp [Zr, Zs, ZY, go_sem, fin, Yu, Yt, YA, Yy, YC, run142, h1, h2, cmpS, ltS]
    · rw [Yc (X := X) _ b107 _ rfl rfl]; unfold b107; (repeat (first | rw [Zj] | rw [Zc (by simp [go_sem, run142, h1, h2, cmpS, ltS]; exact ⟨rfl, rfl⟩)] | rw [Zv (by simp [lk, Za, Od.v, run142, h1, h2, cmpS, ltS]; exact rfl)] | rw [Zp] | rw [Zm] | rw [Zl] | rw [Zy] | rw [Zq] | rw [Zt] | rw [Zo] | rw [Zn] | rw [Zk] | rw [Zg] | rw [Zh] | rw [Zd (by decide)] | rw [Zi] | rw [Ze] | rw [Zf] | rw [Zb (by decide)] | rw [Zz] | rw [Zu (by simp [go_sem, run142, h1, h2, cmpS, ltS]; exact ⟨rfl, rfl⟩)] | rw [Zw (by simp [lk, Za, Od.v, run142, h1, h2, cmpS, ltS]; exact rfl)] | rw [Zx])); simp [Zr, Zs, ZY, go_sem, fin, Yu, Yt, YA, Yy, YC, run142, h1, h2, cmpS, ltS]
  · rw [Yc (X := X) _ b107 _ rfl rfl]; unfold b107; (repeat (first | rw [Zj] | rw [Zc (by simp [go_sem, run142, h1, cmpS, ltS]; exact ⟨rfl, rfl⟩)] | rw [Zv (by simp [lk, Za, Od.v, run142, h1, cmpS, ltS]; exact rfl)] | rw [Zp] | rw [Zm] | rw [Zl] | rw [Zy] | rw [Zq] | rw [Zt] | rw [Zo] | rw [Zn] | rw [Zk] | rw [Zg] | rw [Zh] | rw [Zd (by decide)] | rw [Zi] | rw [Ze] | rw [Zf] | rw [Zb (by decide)] | rw [Zz] | rw [Zu (by simp [go_sem, run142, h1, cmpS, ltS]; exact ⟨rfl, rfl⟩)] | rw [Zw (by simp [lk, Za, Od.v, run142, h1, cmpS, ltS]; exact rfl)] | rw [Zx])); simp [Zr, Zs, ZY, go_sem, fin, Yu, Yt, YA, Yy, YC, run142, h1, cmpS, ltS]
def ord (a b : V) : Int := if a.k ≠ b.k then cmpI a.k b.k else if a.k = 1 then cmpI a.n b.n else if a.k = 2 then cmpS a.s b.s else if a.k = 3 then cmpI (if a.t then 1 else 0) (if b.t then 1 else 0) else 0
theorem run62 (a b : V) (h : ZD) : E X 62 [a.d, b.d] h = some (.int .i64 (ord a b), h) := by
  obtain ⟨k, n, s, t⟩ := a
  obtain ⟨k', n', s', t'⟩ := b
  by_cases h1 : k = k'
  · subst h1
    by_cases h2 : k = 1
    · subst h2
      rw [Yc (X := X) _ b62 _ rfl rfl]; unfold b62; (repeat (first | rw [Zj] | rw [Zc (by simp [go_sem, run106, run107, run108, ord]; exact ⟨rfl, rfl⟩)] | rw [Zv (by simp [lk, Za, Od.v, run106, run107, run108, ord]; exact rfl)] | rw [Zp] | rw [Zm] | rw [Zl] | rw [Zy] | rw [Zq] | rw [Zt] | rw [Zo] | rw [Zn] | rw [Zk] | rw [Zg] | rw [Zh] | rw [Zd (by decide)] | rw [Zi] | rw [Ze] | rw [Zf] | rw [Zb (by decide)] | rw [Zz] | rw [Zu (by simp [go_sem, run106, run107, run108, ord]; exact ⟨rfl, rfl⟩)] | rw [Zw (by simp [lk, Za, Od.v, run106, run107, run108, ord]; exact rfl)] | rw [Zx])); simp [Zr, Zs, ZY, go_sem, fin, Yu, Yt, YA, Yy, YC, run106, run107, run108, ord]
    by_cases h3 : k = 2
    · subst h3
      rw [Yc (X := X) _ b62 _ rfl rfl]; unfold b62; (repeat (first | rw [Zj] | rw [Zc (by simp [go_sem, run106, run107, run108, ord]; exact ⟨rfl, rfl⟩)] | rw [Zv (by simp [lk, Za, Od.v, run106, run107, run108, ord]; exact rfl)] | rw [Zp] | rw [Zm] | rw [Zl] | rw [Zy] | rw [Zq] | rw [Zt] | rw [Zo] | rw [Zn] | rw [Zk] | rw [Zg] | rw [Zh] | rw [Zd (by decide)] | rw [Zi] | rw [Ze] | rw [Zf] | rw [Zb (by decide)] | rw [Zz] | rw [Zu (by simp [go_sem, run106, run107, run108, ord]; exact ⟨rfl, rfl⟩)] | rw [Zw (by simp [lk, Za, Od.v, run106, run107, run108, ord]; exact rfl)] | rw [Zx])); simp [Zr, Zs, ZY, go_sem, fin, Yu, Yt, YA, Yy, YC, run106, run107, run108, ord]
    by_cases h4 : k = 3
    · subst h4
      rw [Yc (X := X) _ b62 _ rfl rfl]; unfold b62; (repeat (first | rw [Zj] | rw [Zc (by simp [go_sem, run106, run107, run108, ord]; exact ⟨rfl, rfl⟩)] | rw [Zv (by simp [lk, Za, Od.v, run106, run107, run108, ord]; exact rfl)] | rw [Zp] | rw [Zm] | rw [Zl] | rw [Zy] | rw [Zq] | rw [Zt] | rw [Zo] | rw [Zn] | rw [Zk] | rw [Zg] | rw [Zh] | rw [Zd (by decide)] | rw [Zi] | rw [Ze] | rw [Zf] | rw [Zb (by decide)] | rw [Zz] | rw [Zu (by simp [go_sem, run106, run107, run108, ord]; exact ⟨rfl, rfl⟩)] | rw [Zw (by simp [lk, Za, Od.v, run106, run107, run108, ord]; exact rfl)] | rw [Zx])); simp [Zr, Zs, ZY, go_sem, fin, Yu, Yt, YA, Yy, YC, run106, run107, run108, ord]
    have e2 : (k == 1) = false := by simpa using h2
    have e3 : (k == 2) = false := by simpa using h3
    have e4 : (k == 3) = false := by simpa using h4
    rw [Yc (X := X) _ b62 _ rfl rfl]; unfold b62; (repeat (first | rw [Zj] | rw [Zc (by simp [go_sem, h2, h3, h4, e2, e3, e4, run106, run107, run108, ord]; exact ⟨rfl, rfl⟩)] | rw [Zv (by simp [lk, Za, Od.v, h2, h3, h4, e2, e3, e4, run106, run107, run108, ord]; exact rfl)] | rw [Zp] | rw [Zm] | rw [Zl] | rw [Zy] | rw [Zq] | rw [Zt] | rw [Zo] | rw [Zn] | rw [Zk] | rw [Zg] | rw [Zh] | rw [Zd (by decide)] | rw [Zi] | rw [Ze] | rw [Zf] | rw [Zb (by decide)] | rw [Zz] | rw [Zu (by simp [go_sem, h2, h3, h4, e2, e3, e4, run106, run107, run108, ord]; exact ⟨rfl, rfl⟩)] | rw [Zw (by simp [lk, Za, Od.v, h2, h3, h4, e2, e3, e4, run106, run107, run108, ord]; exact rfl)] | rw [Zx])); simp [Zr, Zs, ZY, go_sem, fin, Yu, Yt, YA, Yy, YC, h2, h3, h4, e2, e3, e4, run106, run107, run108, ord]
  · have e1 : (k != k') = true := by simpa using h1
    rw [Yc (X := X) _ b62 _ rfl rfl]; unfold b62; (repeat (first | rw [Zj] | rw [Zc (by simp [go_sem, h1, e1, run106, run107, run108, ord]; exact ⟨rfl, rfl⟩)] | rw [Zv (by simp [lk, Za, Od.v, h1, e1, run106, run107, run108, ord]; exact rfl)] | rw [Zp] | rw [Zm] | rw [Zl] | rw [Zy] | rw [Zq] | rw [Zt] | rw [Zo] | rw [Zn] | rw [Zk] | rw [Zg] | rw [Zh] | rw [Zd (by decide)] | rw [Zi] | rw [Ze] | rw [Zf] | rw [Zb (by decide)] | rw [Zz] | rw [Zu (by simp [go_sem, h1, e1, run106, run107, run108, ord]; exact ⟨rfl, rfl⟩)] | rw [Zw (by simp [lk, Za, Od.v, h1, e1, run106, run107, run108, ord]; exact rfl)] | rw [Zx])); simp [Zr, Zs, ZY, go_sem, fin, Yu, Yt, YA, Yy, YC, h1, e1, run106, run107, run108, ord]
def mayV (v : V) : Bool := if v.k = 1 then v.s == ⟨#[]⟩ && !v.t else if v.k = 2 then v.n == 0 && !v.t && decide (v.s.size ≤ 64) else if v.k = 3 then v.n == 0 && v.s == ⟨#[]⟩ else if v.k = 0 then v.n == 0 && v.s == ⟨#[]⟩ && !v.t else false
theorem run72 (v : V) (h : ZD) : E X 72 [v.d] h = some (.bool (mayV v), h) := by
  obtain ⟨k, n, s, t⟩ := v
  by_cases h1 : k = 1
  · subst h1
    rw [Yc (X := X) _ b72 _ rfl rfl]; unfold b72; (repeat (first | rw [Zj] | rw [Zc (by simp [go_sem, mayV]; exact ⟨rfl, rfl⟩)] | rw [Zv (by simp [lk, Za, Od.v, mayV]; exact rfl)] | rw [Zp] | rw [Zm] | rw [Zl] | rw [Zy] | rw [Zq] | rw [Zt] | rw [Zo] | rw [Zn] | rw [Zk] | rw [Zg] | rw [Zh] | rw [Zd (by decide)] | rw [Zi] | rw [Ze] | rw [Zf] | rw [Zb (by decide)] | rw [Zz] | rw [Zu (by simp [go_sem, mayV]; exact ⟨rfl, rfl⟩)] | rw [Zw (by simp [lk, Za, Od.v, mayV]; exact rfl)] | rw [Zx])); simp [Zr, Zs, ZY, go_sem, fin, Yu, Yt, YA, Yy, YC, mayV]
  have e1 : (k == 1) = false := by simpa using h1
  by_cases h2 : k = 2
  · subst h2
    by_cases h5 : s.size ≤ 64
    · have e5 : ¬ (64 : Int) < (s.size : Int) := by omega
      rw [Yc (X := X) _ b72 _ rfl rfl]; unfold b72; (repeat (first | rw [Zj] | rw [Zc (by simp [go_sem, mayV, h5, e5, beq_bytes]; exact ⟨rfl, rfl⟩)] | rw [Zv (by simp [lk, Za, Od.v, mayV, h5, e5, beq_bytes]; exact rfl)] | rw [Zp] | rw [Zm] | rw [Zl] | rw [Zy] | rw [Zq] | rw [Zt] | rw [Zo] | rw [Zn] | rw [Zk] | rw [Zg] | rw [Zh] | rw [Zd (by decide)] | rw [Zi] | rw [Ze] | rw [Zf] | rw [Zb (by decide)] | rw [Zz] | rw [Zu (by simp [go_sem, mayV, h5, e5, beq_bytes]; exact ⟨rfl, rfl⟩)] | rw [Zw (by simp [lk, Za, Od.v, mayV, h5, e5, beq_bytes]; exact rfl)] | rw [Zx])); simp [Zr, Zs, ZY, go_sem, fin, Yu, Yt, YA, Yy, YC, mayV, h5, e5, beq_bytes]
    · have e5 : (64 : Int) < (s.size : Int) := by omega
      rw [Yc (X := X) _ b72 _ rfl rfl]; unfold b72; (repeat (first | rw [Zj] | rw [Zc (by simp [go_sem, mayV, h5, e5]; exact ⟨rfl, rfl⟩)] | rw [Zv (by simp [lk, Za, Od.v, mayV, h5, e5]; exact rfl)] | rw [Zp] | rw [Zm] | rw [Zl] | rw [Zy] | rw [Zq] | rw [Zt] | rw [Zo] | rw [Zn] | rw [Zk] | rw [Zg] | rw [Zh] | rw [Zd (by decide)] | rw [Zi] | rw [Ze] | rw [Zf] | rw [Zb (by decide)] | rw [Zz] | rw [Zu (by simp [go_sem, mayV, h5, e5]; exact ⟨rfl, rfl⟩)] | rw [Zw (by simp [lk, Za, Od.v, mayV, h5, e5]; exact rfl)] | rw [Zx])); simp [Zr, Zs, ZY, go_sem, fin, Yu, Yt, YA, Yy, YC, mayV, h5, e5]
  have e2 : (k == 2) = false := by simpa using h2
  by_cases h3 : k = 3
  · subst h3
    rw [Yc (X := X) _ b72 _ rfl rfl]; unfold b72; (repeat (first | rw [Zj] | rw [Zc (by simp [go_sem, mayV]; exact ⟨rfl, rfl⟩)] | rw [Zv (by simp [lk, Za, Od.v, mayV]; exact rfl)] | rw [Zp] | rw [Zm] | rw [Zl] | rw [Zy] | rw [Zq] | rw [Zt] | rw [Zo] | rw [Zn] | rw [Zk] | rw [Zg] | rw [Zh] | rw [Zd (by decide)] | rw [Zi] | rw [Ze] | rw [Zf] | rw [Zb (by decide)] | rw [Zz] | rw [Zu (by simp [go_sem, mayV]; exact ⟨rfl, rfl⟩)] | rw [Zw (by simp [lk, Za, Od.v, mayV]; exact rfl)] | rw [Zx])); simp [Zr, Zs, ZY, go_sem, fin, Yu, Yt, YA, Yy, YC, mayV]
  have e3 : (k == 3) = false := by simpa using h3
  by_cases h4 : k = 0
  · subst h4
    rw [Yc (X := X) _ b72 _ rfl rfl]; unfold b72; (repeat (first | rw [Zj] | rw [Zc (by simp [go_sem, mayV]; exact ⟨rfl, rfl⟩)] | rw [Zv (by simp [lk, Za, Od.v, mayV]; exact rfl)] | rw [Zp] | rw [Zm] | rw [Zl] | rw [Zy] | rw [Zq] | rw [Zt] | rw [Zo] | rw [Zn] | rw [Zk] | rw [Zg] | rw [Zh] | rw [Zd (by decide)] | rw [Zi] | rw [Ze] | rw [Zf] | rw [Zb (by decide)] | rw [Zz] | rw [Zu (by simp [go_sem, mayV]; exact ⟨rfl, rfl⟩)] | rw [Zw (by simp [lk, Za, Od.v, mayV]; exact rfl)] | rw [Zx])); simp [Zr, Zs, ZY, go_sem, fin, Yu, Yt, YA, Yy, YC, mayV]
    cases t <;> simp
  have e4 : (k == 0) = false := by simpa using h4
  rw [Yc (X := X) _ b72 _ rfl rfl]; unfold b72; (repeat (first | rw [Zj] | rw [Zc (by simp [go_sem, mayV, h1, h2, h3, h4, e1, e2, e3, e4]; exact ⟨rfl, rfl⟩)] | rw [Zv (by simp [lk, Za, Od.v, mayV, h1, h2, h3, h4, e1, e2, e3, e4]; exact rfl)] | rw [Zp] | rw [Zm] | rw [Zl] | rw [Zy] | rw [Zq] | rw [Zt] | rw [Zo] | rw [Zn] | rw [Zk] | rw [Zg] | rw [Zh] | rw [Zd (by decide)] | rw [Zi] | rw [Ze] | rw [Zf] | rw [Zb (by decide)] | rw [Zz] | rw [Zu (by simp [go_sem, mayV, h1, h2, h3, h4, e1, e2, e3, e4]; exact ⟨rfl, rfl⟩)] | rw [Zw (by simp [lk, Za, Od.v, mayV, h1, h2, h3, h4, e1, e2, e3, e4]; exact rfl)] | rw [Zx])); simp [Zr, Zs, ZY, go_sem, fin, Yu, Yt, YA, Yy, YC, mayV, h1, h2, h3, h4, e1, e2, e3, e4]
def V.eqb (a b : V) : Bool := a.k == b.k && (a.n == b.n && (a.s == b.s && a.t == b.t))
theorem V.eqb_iff (a b : V) : a.eqb b = true ↔ a = b := by
  obtain ⟨k, n, s, t⟩ := a
  obtain ⟨k', n', s', t'⟩ := b
  have hs : (s == s') = true ↔ s = s' := by
    constructor
    · intro h
      have h' : (s.data == s'.data) = true := h
      cases s; cases s'
      simp at h' ⊢
      exact h'
    · rintro rfl; exact beq_bytes s
  simp only [V.eqb, Bool.and_eq_true, hs, beq_iff_eq, V.mk.injEq]
def ents : List V → Nat → List (DV × DV)
  | [], _ => []
  | a :: l, i => (a.d, .int .i64 i) :: ents l (i + 1)
/-- A dictionary in the ideal heap. -/
structure DictAt (H : ZD) (o m : Nat) (L : DV) (lim : Int) (vs : List V) : Prop where
  box : H[o]? = some (.box 170 [.int .i64 lim, L, .map m])
  map : H[m]? = some (.map 0 0 (ents vs 0))
  row : (vs = [] ∧ L = .nils) ∨ ∃ r g, L = .row r g 0 vs.length false ∧ H[r]? = some (.row 51 4 g (vs.map V.d))
theorem hle {H : ZD} {o : Nat} {x : HO} (h : H[o]? = some x) (l : ZD) : (H ++ l)[o]? = some x := by
  rw [List.getElem?_append_left (List.getElem?_eq_some_iff.1 h).1]; exact h
theorem DictAt.len {H : ZD} {o m : Nat} {L : DV} {lim : Int} {vs : List V} (hd : DictAt H o m L lim vs) (l : ZD) : vw (H ++ l) 4 L = some (vs.map V.d) := by
  rcases hd.row with ⟨rfl, rfl⟩ | ⟨r, g, rfl, e2⟩
  · rfl
  · simp [vw, hle e2 l, List.take_of_length_le]
theorem DictAt.app {H : ZD} {o m : Nat} {L : DV} {lim : Int} {vs : List V} (hd : DictAt H o m L lim vs) (l : ZD) : DictAt (H ++ l) o m L lim vs :=
  ⟨hle hd.box l, hle hd.map l, by
    rcases hd.row with h | ⟨r, g, h1, h2⟩
    · exact .inl h
    · exact .inr ⟨r, g, h1, hle h2 l⟩⟩
/-- Is a place the row of a slice? -/
def rowOf : DV → Option Nat
  | .row r _ _ _ _ => some r
  | _ => none
def bs (p : Nat → Bool) (lo hi : Nat) : Nat := if h : lo < hi then (if p ((lo + hi) / 2) then bs p lo ((lo + hi) / 2) else bs p ((lo + hi) / 2 + 1) hi) else lo
termination_by hi - lo
theorem run145 (x v : V) {h : ZD} {q : Nat} {t : Nat} (hq : h[q]? = some (.box t v.d.cells)) : E X 145 [x.d, .ref q 0] h = some (.bool (decide (ord x v ≥ 0)), h) := by
  have e1 := hle hq
  rw [Yc (X := X) _ b145 _ rfl rfl]; unfold b145; (repeat (first | rw [Zj] | rw [Zc (by simp [go_sem, e1, run62]; exact ⟨rfl, rfl⟩)] | rw [Zv (by simp [lk, Za, Od.v, e1, run62]; exact rfl)] | rw [Zp] | rw [Zm] | rw [Zl] | rw [Zy] | rw [Zq] | rw [Zt] | rw [Zo] | rw [Zn] | rw [Zk] | rw [Zg] | rw [Zh] | rw [Zd (by decide)] | rw [Zi] | rw [Ze] | rw [Zf] | rw [Zb (by decide)] | rw [Zz] | rw [Zu (by simp [go_sem, e1, run62]; exact ⟨rfl, rfl⟩)] | rw [Zw (by simp [lk, Za, Od.v, e1, run62]; exact rfl)] | rw [Zx])); simp [Zr, Zs, ZY, go_sem, fin, Yu, Yt, YA, Yy, YC, e1, run62]
theorem loop144 {h : ZD} {L c : DV} {f : Nat} {xs : List V} {p : V → Bool} (hL : vw h 4 L = some (xs.map V.d)) (hb : xs.length ≤ 1000000) (hf : ∀ x ∈ xs, E X f [x.d, c] h = some (.bool (p x), h)) :
    ∀ (n lo hi : Nat), hi - lo ≤ n → lo ≤ hi → hi ≤ xs.length → ∃ e', C X (.loop lp144_0) [(0, L), (1, .func f [] [c]), (5, .int .i64 lo), (6, .int .i64 hi)] h = some (.exit 0, e', h) ∧ lk e' 5 = .int .i64 (bs (fun i => (xs[i]?.map p).getD false) lo hi : Nat) := by
  intro n
  induction n with
  | zero =>
    intro lo hi h1 h2 h3
    obtain rfl : lo = hi := by omega
    rw [Yh]
    unfold lp144_0
    (repeat (first | rw [Zj] | rw [Zc (by simp [go_sem]; exact ⟨rfl, rfl⟩)] | rw [Zv (by simp [lk, Za, Od.v]; exact rfl)] | rw [Zp] | rw [Zm] | rw [Zl] | rw [Zy] | rw [Zq] | rw [Zt] | rw [Zo] | rw [Zn] | rw [Zk] | rw [Zg] | rw [Zh] | rw [Zd (by decide)] | rw [Zi] | rw [Ze] | rw [Zf] | rw [Zb (by decide)] | rw [Zz] | rw [Zu (by simp [go_sem]; exact ⟨rfl, rfl⟩)] | rw [Zw (by simp [lk, Za, Od.v]; exact rfl)] | rw [Zx]))
    rw [Yx]
    refine ⟨_, rfl, ?_⟩
    rw [bs]
    simp [lk, Za]
  | succ n ih =>
    intro lo hi h1 h2 h3
    by_cases hlt : lo < hi
    · obtain ⟨m, hm⟩ : ∃ m, m = (lo + hi) / 2 := ⟨_, rfl⟩
      have w0 : (lo : Int) < hi := by omega
      have w1 : IntKind.i64.wrap ((lo : Int) + hi) = (lo : Int) + hi := wrap64 _ (by omega) (by omega)
      have w2 : Int.tdiv ((lo : Int) + hi) 2 = m := by rw [Int.tdiv_eq_ediv_of_nonneg (by omega)]; omega
      have w3 : IntKind.i64.wrap (m : Int) = m := wrap64 _ (by omega) (by omega)
      have w4 : IntKind.i64.wrap ((m : Int) + 1) = ((m + 1 : Nat) : Int) := by rw [wrap64 _ (by omega) (by omega)]; rfl
      have w5 : (m : Int) < xs.length := by omega
      have w6 : m < xs.length := by omega
      have hmx : xs[m]? = some xs[m] := List.getElem?_eq_getElem (by omega)
      have hp := hf xs[m] (List.getElem_mem _)
      cases hx : p xs[m]
      · have hn : C X lp144_0 [(0, L), (1, .func f [] [c]), (5, .int .i64 lo), (6, .int .i64 hi)] h = some (.norm, [(0, L), (1, .func f [] [c]), (5, .int .i64 (m + 1 : Nat)), (6, .int .i64 hi)], h) := by
          unfold lp144_0
          rw [hx] at hp
          (repeat (first | rw [Zj] | rw [Zc (by simp [go_sem, w0, w1, w2, w3, w4, w5, w6, hL, hp, ZR]; exact ⟨rfl, rfl⟩)] | rw [Zv (by simp [lk, Za, Od.v, w0, w1, w2, w3, w4, w5, w6, hL, hp, ZR]; exact rfl)] | rw [Zp] | rw [Zm] | rw [Zl] | rw [Zy] | rw [Zq] | rw [Zt] | rw [Zo] | rw [Zn] | rw [Zk] | rw [Zg] | rw [Zh] | rw [Zd (by decide)] | rw [Zi] | rw [Ze] | rw [Zf] | rw [Zb (by decide)] | rw [Zz] | rw [Zu (by simp [go_sem, w0, w1, w2, w3, w4, w5, w6, hL, hp, ZR]; exact ⟨rfl, rfl⟩)] | rw [Zw (by simp [lk, Za, Od.v, w0, w1, w2, w3, w4, w5, w6, hL, hp, ZR]; exact rfl)] | rw [Zx]))
          simp [Za, lk]
        rw [Yh, hn, Yw]
        obtain ⟨e', h4, h5⟩ := ih (m + 1) hi (by omega) (by omega) h3
        refine ⟨e', h4, h5.trans ?_⟩
        rw [bs.eq_1 _ lo hi, dif_pos hlt, ← hm, hmx]
        simp [hx]
      · have hn : C X lp144_0 [(0, L), (1, .func f [] [c]), (5, .int .i64 lo), (6, .int .i64 hi)] h = some (.norm, [(0, L), (1, .func f [] [c]), (5, .int .i64 lo), (6, .int .i64 m)], h) := by
          unfold lp144_0
          rw [hx] at hp
          (repeat (first | rw [Zj] | rw [Zc (by simp [go_sem, w0, w1, w2, w3, w4, w5, w6, hL, hp, ZR]; exact ⟨rfl, rfl⟩)] | rw [Zv (by simp [lk, Za, Od.v, w0, w1, w2, w3, w4, w5, w6, hL, hp, ZR]; exact rfl)] | rw [Zp] | rw [Zm] | rw [Zl] | rw [Zy] | rw [Zq] | rw [Zt] | rw [Zo] | rw [Zn] | rw [Zk] | rw [Zg] | rw [Zh] | rw [Zd (by decide)] | rw [Zi] | rw [Ze] | rw [Zf] | rw [Zb (by decide)] | rw [Zz] | rw [Zu (by simp [go_sem, w0, w1, w2, w3, w4, w5, w6, hL, hp, ZR]; exact ⟨rfl, rfl⟩)] | rw [Zw (by simp [lk, Za, Od.v, w0, w1, w2, w3, w4, w5, w6, hL, hp, ZR]; exact rfl)] | rw [Zx]))
          simp [Za, lk]
        rw [Yh, hn, Yw]
        obtain ⟨e', h4, h5⟩ := ih lo m (by omega) (by omega) (by omega)
        refine ⟨e', h4, h5.trans ?_⟩
        rw [bs.eq_1 _ lo hi, dif_pos hlt, ← hm, hmx]
        simp [hx]
    · exact ih lo hi (by omega) h2 h3
theorem run144 {h : ZD} {L c : DV} {f : Nat} {xs : List V} {p : V → Bool} (hL : vw h 4 L = some (xs.map V.d)) (hb : xs.length ≤ 1000000) (hf : ∀ x ∈ xs, E X f [x.d, c] h = some (.bool (p x), h)) :
    E X 144 [L, .func f [] [c]] h = some (.int .i64 (bs (fun i => (xs[i]?.map p).getD false) 0 xs.length : Nat), h) := by
  obtain ⟨e', h1, h2⟩ := loop144 hL hb hf xs.length 0 xs.length (by omega) (by omega) (by omega)
  rw [Yc (X := X) _ b144 _ rfl rfl]; unfold b144
  (repeat (first | rw [Zj] | rw [Zc (by simp [go_sem, hL]; exact ⟨rfl, rfl⟩)] | rw [Zv (by simp [lk, Za, Od.v, hL]; exact rfl)] | rw [Zp] | rw [Zm] | rw [Zl] | rw [Zy] | rw [Zq] | rw [Zt] | rw [Zo] | rw [Zn] | rw [Zk] | rw [Zg] | rw [Zh] | rw [Zd (by decide)] | rw [Zi] | rw [Ze] | rw [Zf] | rw [Zb (by decide)] | rw [Zz] | rw [Zu (by simp [go_sem, hL]; exact ⟨rfl, rfl⟩)] | rw [Zw (by simp [lk, Za, Od.v, hL]; exact rfl)] | rw [Zx]))
  simp [Za, lk]
  simp at h1
  rw [h1]
  (repeat (first | rw [Zj] | rw [Zc (by simp [go_sem, h2]; exact ⟨rfl, rfl⟩)] | rw [Zv (by simp [lk, Za, Od.v, h2]; exact rfl)] | rw [Zp] | rw [Zm] | rw [Zl] | rw [Zy] | rw [Zq] | rw [Zt] | rw [Zo] | rw [Zn] | rw [Zk] | rw [Zg] | rw [Zh] | rw [Zd (by decide)] | rw [Zi] | rw [Ze] | rw [Zf] | rw [Zb (by decide)] | rw [Zz] | rw [Zu (by simp [go_sem, h2]; exact ⟨rfl, rfl⟩)] | rw [Zw (by simp [lk, Za, Od.v, h2]; exact rfl)] | rw [Zx]))
  simp [Zr, Zs, ZY, go_sem, fin, Yu, Yt, YA, Yy, YC, h2]
instance : Inhabited V := ⟨V0⟩
def lt (a b : V) : Bool := decide (ord a b < 0)
/-- The heap in which a row stands as it is now. -/
def hp (H : ZD) (r g : Nat) (d : Array V) : ZD := H.set r (.row 51 4 g (d.toList.map V.d))
/-- An element, and an array with one changed: shut, so that nothing rewrites them. -/
def el (d : Array V) (i : Nat) : V := d[i]!
/-- A slice that grows in a row of its own, from place n0 on. -/
def GrowAt (n0 t sz : Nat) (h : ZD) (L : DV) (xs : List DV) : Prop :=
  (xs = [] ∧ L = .nils) ∨ ∃ r g, L = .row r g 0 xs.length false ∧ n0 ≤ r ∧ h[r]? = some (.row t sz g xs)
theorem GrowAt.vw {n0 t sz : Nat} {h : ZD} {L : DV} {xs : List DV} (hr : GrowAt n0 t sz h L xs) : vw h sz L = some xs := by
  rcases hr with ⟨rfl, rfl⟩ | ⟨r, g, rfl, _, h2⟩
  · rfl
  · simp [Go.Proofs.YtojhkbbnkhfnhaaGreatDoor.vw, h2]
theorem GrowAt.ext {n0 t sz : Nat} {h : ZD} {L : DV} {xs : List DV} (hr : GrowAt n0 t sz h L xs) (l : ZD) : GrowAt n0 t sz (h ++ l) L xs := by
  rcases hr with h1 | ⟨r, g, h1, h2, h3⟩
  · exact .inl h1
  · exact .inr ⟨r, g, h1, h2, hle h3 l⟩
theorem GrowAt.app {n0 t sz by' : Nat} {h : ZD} {L : DV} {xs ys : List DV} (hr : GrowAt n0 t sz h L xs) (hn : n0 ≤ h.length) (hy : ys ≠ []) (hb : (xs.length + ys.length) * by' ≤ 140737488355328) :
    ∃ L' h', appx h t sz by' L xs ys = some (L', h') ∧ GrowAt n0 t sz h' L' (xs ++ ys) ∧ h'.take n0 = h.take n0 ∧ h.length ≤ h'.length := by
  rcases hr with ⟨rfl, rfl⟩ | ⟨r, g, rfl, h2, h3⟩
  · refine ⟨.row h.length 0 0 ys.length false, h ++ [.row t sz 0 ys], ?_, .inr ⟨h.length, 0, by simp, hn, by simp⟩, ?_, by simp⟩
    · rw [appx, if_neg hy, if_pos hb]
    · rw [List.take_append_of_le_length hn]
  · have hl := (List.getElem?_eq_some_iff.1 h3).1
    refine ⟨.row r (g + 1) 0 (xs.length + ys.length) false, h.set r (.row t sz (g + 1) (xs ++ ys)), ?_, .inr ⟨r, g + 1, by simp, h2, List.getElem?_set_self hl⟩, ?_, by simp⟩
    · rw [appx, if_neg hy, if_pos hb]
      simp [h3]
    · rw [List.take_set_of_le h2]
/-- Where a value stands in a list. -/
def place (xs : List V) (v : V) : Nat := bs (fun i => (xs[i]?.map fun x => decide (ord x v ≥ 0)).getD false) 0 xs.length
theorem bs_le (p : Nat → Bool) (lo hi : Nat) (h : lo ≤ hi) : lo ≤ bs p lo hi ∧ bs p lo hi ≤ hi := by
  rw [bs]
  split
  · split
    · have := bs_le p lo ((lo + hi) / 2) (by omega); omega
    · have := bs_le p ((lo + hi) / 2 + 1) hi (by omega); omega
  · omega
termination_by hi - lo
theorem place_le (xs : List V) (v : V) : place xs v ≤ xs.length := (bs_le _ _ _ (Nat.zero_le _)).2
def found (xs : List V) (v : V) : Bool := (xs[place xs v]?.map fun x => x.eqb v).getD false
theorem run118 {h : ZD} {L : DV} {xs : List V} (v : V) (hL : ∀ l, vw (h ++ l) 4 L = some (xs.map V.d)) (hb : xs.length ≤ 1000000) : E X 118 [L, v.d] h = some (.tup [.int .i64 (place xs v : Nat), .bool (found xs v)], h) := by
  have e1 : E X 144 [L, .func 145 [] [.ref h.length 0]] (h ++ [HO.box 51 [.int .i64 v.k, .int .i64 v.n, .str v.s, .bool v.t]]) = some (.int .i64 (place xs v : Nat), h ++ [HO.box 51 [.int .i64 v.k, .int .i64 v.n, .str v.s, .bool v.t]]) :=
    run144 (p := fun x => decide (ord x v ≥ 0)) (hL _) hb (fun x _ => run145 x v (t := 51) (by simp [DV.cells]))
  have hp := place_le xs v
  by_cases hlt : place xs v < xs.length
  · have w : found xs v = xs[place xs v].eqb v := by simp [found, List.getElem?_eq_getElem hlt]
    rw [Yc (X := X) _ b118 _ rfl rfl]; unfold b118; (repeat (first | rw [Zj] | rw [Zc (by simp [go_sem, e1, hL, hlt, w, ZR, V.eqb]; exact ⟨rfl, rfl⟩)] | rw [Zv (by simp [lk, Za, Od.v, e1, hL, hlt, w, ZR, V.eqb]; exact rfl)] | rw [Zp] | rw [Zm] | rw [Zl] | rw [Zy] | rw [Zq] | rw [Zt] | rw [Zo] | rw [Zn] | rw [Zk] | rw [Zg] | rw [Zh] | rw [Zd (by decide)] | rw [Zi] | rw [Ze] | rw [Zf] | rw [Zb (by decide)] | rw [Zz] | rw [Zu (by simp [go_sem, e1, hL, hlt, w, ZR, V.eqb]; exact ⟨rfl, rfl⟩)] | rw [Zw (by simp [lk, Za, Od.v, e1, hL, hlt, w, ZR, V.eqb]; exact rfl)] | rw [Zx])); simp [Zr, Zs, ZY, go_sem, fin, Yu, Yt, YA, Yy, YC, e1, hL, hlt, w, ZR, V.eqb]
  · have w : found xs v = false := by simp [found, List.getElem?_eq_none (Nat.le_of_not_lt hlt)]
    rw [Yc (X := X) _ b118 _ rfl rfl]; unfold b118; (repeat (first | rw [Zj] | rw [Zc (by simp [go_sem, e1, hL, hlt, w]; exact ⟨rfl, rfl⟩)] | rw [Zv (by simp [lk, Za, Od.v, e1, hL, hlt, w]; exact rfl)] | rw [Zp] | rw [Zm] | rw [Zl] | rw [Zy] | rw [Zq] | rw [Zt] | rw [Zo] | rw [Zn] | rw [Zk] | rw [Zg] | rw [Zh] | rw [Zd (by decide)] | rw [Zi] | rw [Ze] | rw [Zf] | rw [Zb (by decide)] | rw [Zz] | rw [Zu (by simp [go_sem, e1, hL, hlt, w]; exact ⟨rfl, rfl⟩)] | rw [Zw (by simp [lk, Za, Od.v, e1, hL, hlt, w]; exact rfl)] | rw [Zx])); simp [Zr, Zs, ZY, go_sem, fin, Yu, Yt, YA, Yy, YC, e1, hL, hlt, w]
def tab : ByteArray := ⟨#[0, 1, 2, 2, 3, 3, 3, 3, 4, 4, 4, 4, 4, 4, 4, 4, 5, 5, 5, 5, 5, 5, 5, 5, 5, 5, 5, 5, 5, 5, 5, 5, 6, 6, 6, 6, 6, 6, 6, 6, 6, 6, 6, 6, 6, 6, 6, 6, 6, 6, 6, 6, 6, 6, 6, 6, 6, 6, 6, 6, 6, 6, 6, 6, 7, 7, 7, 7, 7, 7, 7, 7, 7, 7, 7, 7, 7, 7, 7, 7, 7, 7, 7, 7, 7, 7, 7, 7, 7, 7, 7, 7, 7, 7, 7, 7, 7, 7, 7, 7, 7, 7, 7, 7, 7, 7, 7, 7, 7, 7, 7, 7, 7, 7, 7, 7, 7, 7, 7, 7, 7, 7, 7, 7, 7, 7, 7, 7, 8, 8, 8, 8, 8, 8, 8, 8, 8, 8, 8, 8, 8, 8, 8, 8, 8, 8, 8, 8, 8, 8, 8, 8, 8, 8, 8, 8, 8, 8, 8, 8, 8, 8, 8, 8, 8, 8, 8, 8, 8, 8, 8, 8, 8, 8, 8, 8, 8, 8, 8, 8, 8, 8, 8, 8, 8, 8, 8, 8, 8, 8, 8, 8, 8, 8, 8, 8, 8, 8, 8, 8, 8, 8, 8, 8, 8, 8, 8, 8, 8, 8, 8, 8, 8, 8, 8, 8, 8, 8, 8, 8, 8, 8, 8, 8, 8, 8, 8, 8, 8, 8, 8, 8, 8, 8, 8, 8, 8, 8, 8, 8, 8, 8, 8, 8, 8, 8, 8, 8, 8, 8, 8, 8, 8, 8, 8, 8]⟩
/-- The function's code, over a table. -/
def ltab (T : ByteArray) : XC := .seq (.reg [⟨some 2, .mov (.c (.int .i64 0)), none, false⟩] [0, 2]) (.seq (.seq (.reg [⟨some 3, .mov (.t 0), none, false⟩, ⟨some 4, .bin .geq (.t 3) (.c (.int .u64 4294967296)), none, false⟩] [0, 2, 4]) (.cond (.t 4) (.seq (.reg [⟨some 5, .mov (.t 0), none, false⟩, ⟨some 6, .bin .shr (.t 5) (.c (.int .u64 32)), none, false⟩, ⟨some 0, .mov (.t 6), none, false⟩] [0]) (.reg [⟨some 2, .mov (.c (.int .i64 32)), none, false⟩] [0, 2])) .skip)) (.seq (.seq (.reg [⟨some 7, .mov (.t 0), none, false⟩, ⟨some 8, .bin .geq (.t 7) (.c (.int .u64 65536)), none, false⟩] [0, 2, 8]) (.cond (.t 8) (.seq (.reg [⟨some 9, .mov (.t 0), none, false⟩, ⟨some 10, .bin .shr (.t 9) (.c (.int .u64 16)), none, false⟩, ⟨some 0, .mov (.t 10), none, false⟩] [0, 2]) (.reg [⟨some 11, .mov (.t 2), none, false⟩, ⟨some 12, .bin .add (.t 11) (.c (.int .i64 16)), none, false⟩, ⟨some 2, .mov (.t 12), none, false⟩] [0, 2])) .skip)) (.seq (.seq (.reg [⟨some 13, .mov (.t 0), none, false⟩, ⟨some 14, .bin .geq (.t 13) (.c (.int .u64 256)), none, false⟩] [0, 2, 14]) (.cond (.t 14) (.seq (.reg [⟨some 15, .mov (.t 0), none, false⟩, ⟨some 16, .bin .shr (.t 15) (.c (.int .u64 8)), none, false⟩, ⟨some 0, .mov (.t 16), none, false⟩] [0, 2]) (.reg [⟨some 17, .mov (.t 2), none, false⟩, ⟨some 18, .bin .add (.t 17) (.c (.int .i64 8)), none, false⟩, ⟨some 2, .mov (.t 18), none, false⟩] [0, 2])) .skip)) (.seq (.reg [⟨some 19, .mov (.t 2), none, false⟩, ⟨some 20, .mov (.t 0), none, false⟩, ⟨some 21, .toint .u8 (.t 20), none, false⟩, ⟨some 22, .idxs (.c (.str T)) (.t 21), none, false⟩, ⟨some 23, .toint .i64 (.t 22), none, false⟩, ⟨some 24, .bin .add (.t 19) (.t 23), none, false⟩, ⟨some 2, .mov (.t 24), none, false⟩] [2]) .ret))))
theorem tab_at : ∀ n < 256, tab.data.toList[n]? = some (UInt8.ofNat (Go.Sort.bitsLen n)) := by
  have h : (List.range 256).all (fun n => tab.data.toList[n]? == some (UInt8.ofNat (Go.Sort.bitsLen n))) = true := by decide +kernel
  intro n hn
  simpa using List.all_eq_true.1 h n (List.mem_range.2 hn)
theorem bitsLen_lt : ∀ n < 256, Go.Sort.bitsLen n < 9 := by
  have h : (List.range 256).all (fun n => decide (Go.Sort.bitsLen n < 9)) = true := by decide +kernel
  intro n hn
  simpa using List.all_eq_true.1 h n (List.mem_range.2 hn)
theorem run105 (n : Nat) (hn : n < 256) (h : ZD) : E X 105 [.int .u64 n] h = some (.int .i64 (Go.Sort.bitsLen n : Nat), h) := by
  have w1 : ¬ ((4294967296 : Int) ≤ n) := by omega
  have w2 : ¬ ((65536 : Int) ≤ n) := by omega
  have w3 : ¬ ((256 : Int) ≤ n) := by omega
  have t1 := tab_at n hn
  have t2 := bitsLen_lt n hn
  have w4 : IntKind.u8.wrap (n : Int) = n := by simp [IntKind.wrap, IntKind.bits, IntKind.signed]; omega
  have w5 : IntKind.i64.wrap ((UInt8.ofNat (Go.Sort.bitsLen n)).toNat : Int) = (Go.Sort.bitsLen n : Nat) := by
    rw [UInt8.toNat_ofNat', Nat.mod_eq_of_lt (by omega)]; exact wrap64 _ (by omega) (by omega)
  have w6 : IntKind.i64.wrap (Go.Sort.bitsLen n : Int) = Go.Sort.bitsLen n := wrap64 _ (by omega) (by omega)
  have w7 : Go.Sort.bitsLen n % 256 = Go.Sort.bitsLen n := by omega
  have t3 : tab.data[n]? = some (UInt8.ofNat (Go.Sort.bitsLen n)) := by rw [← Array.getElem?_toList]; exact t1
  rw [Yc (X := X) _ b105 _ rfl rfl]
  change ends _ _ (C X (ltab tab) _ _) = _
  unfold ltab
  (repeat (first | rw [Zj] | rw [Zc (by simp [go_sem, w1, w2, w3, t3, w4, w5, w6, w7]; exact ⟨rfl, rfl⟩)] | rw [Zv (by simp [lk, Za, Od.v, w1, w2, w3, t3, w4, w5, w6, w7]; exact rfl)] | rw [Zp] | rw [Zm] | rw [Zl] | rw [Zy] | rw [Zq] | rw [Zt] | rw [Zo] | rw [Zn] | rw [Zk] | rw [Zg] | rw [Zh] | rw [Zd (by decide)] | rw [Zi] | rw [Ze] | rw [Zf] | rw [Zb (by decide)] | rw [Zz] | rw [Zu (by simp [go_sem, w1, w2, w3, t3, w4, w5, w6, w7]; exact ⟨rfl, rfl⟩)] | rw [Zw (by simp [lk, Za, Od.v, w1, w2, w3, t3, w4, w5, w6, w7]; exact rfl)] | rw [Zx]))
  simp [Zr, Zs, ZY, go_sem, fin, Yu, Yt, YA, Yy, YC, w1, w2, w3, t3, w4, w5, w6, w7]
theorem loop24 {h : ZD} {A B : DV} {xs ys : List Int} (hA : vw h 1 A = some (xs.map (.int .i64))) (hB : vw h 1 B = some (ys.map (.int .i64))) (hl : xs.length = ys.length) (hb : xs.length ≤ 1000000) :
    ∀ (k i : Nat), xs.length - i ≤ k → i ≤ xs.length → (C X (.loop lp24_0) [(0, A), (1, B), (5, .int .i64 i)] h = some (.ret, [(4, .bool false)], h) ∧ xs.drop i ≠ ys.drop i) ∨ (∃ e', C X (.loop lp24_0) [(0, A), (1, B), (5, .int .i64 i)] h = some (.exit 0, e', h) ∧ xs.drop i = ys.drop i) := by
  intro k
  induction k with
  | zero =>
    intro i hk hi
    obtain rfl : i = xs.length := by omega
    right
    rw [Yh]
    unfold lp24_0
    (repeat (first | rw [Zj] | rw [Zc (by simp [go_sem, hA]; exact ⟨rfl, rfl⟩)] | rw [Zv (by simp [lk, Za, Od.v, hA]; exact rfl)] | rw [Zp] | rw [Zm] | rw [Zl] | rw [Zy] | rw [Zq] | rw [Zt] | rw [Zo] | rw [Zn] | rw [Zk] | rw [Zg] | rw [Zh] | rw [Zd (by decide)] | rw [Zi] | rw [Ze] | rw [Zf] | rw [Zb (by decide)] | rw [Zz] | rw [Zu (by simp [go_sem, hA]; exact ⟨rfl, rfl⟩)] | rw [Zw (by simp [lk, Za, Od.v, hA]; exact rfl)] | rw [Zx]))
    rw [Yx]
    exact ⟨_, rfl, by rw [List.drop_length, hl, List.drop_length]⟩
  | succ k ih =>
    intro i hk hi
    by_cases w0 : i < xs.length
    · have w0' : i < ys.length := by omega
      obtain ⟨I, hI⟩ : ∃ I, I = i + 1 := ⟨_, rfl⟩
      have w1 : IntKind.i64.wrap ((i : Int) + 1) = (I : Int) := by rw [wrap64 _ (by omega) (by omega)]; omega
      have d1 : xs.drop i = xs[i] :: xs.drop (i + 1) := List.drop_eq_getElem_cons w0
      have d2 : ys.drop i = ys[i] :: ys.drop (i + 1) := List.drop_eq_getElem_cons w0'
      by_cases he : xs[i] = ys[i]
      · have hs : C X lp24_0 [(0, A), (1, B), (5, .int .i64 i)] h = some (.norm, [(0, A), (1, B), (5, .int .i64 I)], h) := by
          unfold lp24_0
          have he' : (xs[i] != ys[i]) = false := by simpa using he
          (repeat (first | rw [Zj] | rw [Zc (by simp [go_sem, hA, hB, w0, w0', w1, ZR, he']; exact ⟨rfl, rfl⟩)] | rw [Zv (by simp [lk, Za, Od.v, hA, hB, w0, w0', w1, ZR, he']; exact rfl)] | rw [Zp] | rw [Zm] | rw [Zl] | rw [Zy] | rw [Zq] | rw [Zt] | rw [Zo] | rw [Zn] | rw [Zk] | rw [Zg] | rw [Zh] | rw [Zd (by decide)] | rw [Zi] | rw [Ze] | rw [Zf] | rw [Zb (by decide)] | rw [Zz] | rw [Zu (by simp [go_sem, hA, hB, w0, w0', w1, ZR, he']; exact ⟨rfl, rfl⟩)] | rw [Zw (by simp [lk, Za, Od.v, hA, hB, w0, w0', w1, ZR, he']; exact rfl)] | rw [Zx]))
          simp [Za, lk]
        rw [Yh, hs, Yw]
        rcases ih I (by omega) (by omega) with ⟨c1, c2⟩ | ⟨e', c1, c2⟩
        · refine .inl ⟨c1, fun h => ?_⟩
          rw [d1, d2] at h
          injection h with _ h
          exact c2 (by rw [hI]; exact h)
        · exact .inr ⟨e', c1, by rw [d1, d2, he, ← hI, c2]⟩
      · left
        have he' : (xs[i] != ys[i]) = true := by simpa using he
        rw [Yh]
        unfold lp24_0
        (repeat (first | rw [Zj] | rw [Zc (by simp [go_sem, hA, hB, w0, w0', w1, ZR, he']; exact ⟨rfl, rfl⟩)] | rw [Zv (by simp [lk, Za, Od.v, hA, hB, w0, w0', w1, ZR, he']; exact rfl)] | rw [Zp] | rw [Zm] | rw [Zl] | rw [Zy] | rw [Zq] | rw [Zt] | rw [Zo] | rw [Zn] | rw [Zk] | rw [Zg] | rw [Zh] | rw [Zd (by decide)] | rw [Zi] | rw [Ze] | rw [Zf] | rw [Zb (by decide)] | rw [Zz] | rw [Zu (by simp [go_sem, hA, hB, w0, w0', w1, ZR, he']; exact ⟨rfl, rfl⟩)] | rw [Zw (by simp [lk, Za, Od.v, hA, hB, w0, w0', w1, ZR, he']; exact rfl)] | rw [Zx]))
        rw [lp_ret]
        exact ⟨by simp [Za, lk], by intro h; rw [d1, d2] at h; injection h with h; exact he h⟩
    · exact ih i (by omega) hi
theorem run24 {h : ZD} {A B : DV} {xs ys : List Int} (hA : vw h 1 A = some (xs.map (.int .i64))) (hB : vw h 1 B = some (ys.map (.int .i64))) (hb : xs.length ≤ 1000000) : E X 24 [A, B] h = some (.bool (decide (xs = ys)), h) := by
  by_cases hl : xs.length = ys.length
  · have hl' : ((xs.length : Int) != ys.length) = false := by simp [hl]
    have hl2 : ((ys.length : Int) != ys.length) = false := by simp
    rw [Yc (X := X) _ b24 _ rfl rfl]; unfold b24
    (repeat (first | rw [Zj] | rw [Zc (by simp [go_sem, hA, hB, hl', hl2]; exact ⟨rfl, rfl⟩)] | rw [Zv (by simp [lk, Za, Od.v, hA, hB, hl', hl2]; exact rfl)] | rw [Zp] | rw [Zm] | rw [Zl] | rw [Zy] | rw [Zq] | rw [Zt] | rw [Zo] | rw [Zn] | rw [Zk] | rw [Zg] | rw [Zh] | rw [Zd (by decide)] | rw [Zi] | rw [Ze] | rw [Zf] | rw [Zb (by decide)] | rw [Zz] | rw [Zu (by simp [go_sem, hA, hB, hl', hl2]; exact ⟨rfl, rfl⟩)] | rw [Zw (by simp [lk, Za, Od.v, hA, hB, hl', hl2]; exact rfl)] | rw [Zx]))
    rcases loop24 hA hB hl hb xs.length 0 (by omega) (by omega) with ⟨c1, c2⟩ | ⟨e', c1, c2⟩
    · rw [show ((0 : Nat) : Int) = 0 from rfl] at c1
      (try simp only [Za, List.map_cons, List.map_nil, lk, reduceIte, Nat.reduceEqDiff, Nat.zero_ne_one, Nat.one_ne_zero])
      rw [c1]
      (repeat (first | rw [Zj] | rw [Zc (by simp [go_sem, hA, hB]; exact ⟨rfl, rfl⟩)] | rw [Zv (by simp [lk, Za, Od.v, hA, hB]; exact rfl)] | rw [Zp] | rw [Zm] | rw [Zl] | rw [Zy] | rw [Zq] | rw [Zt] | rw [Zo] | rw [Zn] | rw [Zk] | rw [Zg] | rw [Zh] | rw [Zd (by decide)] | rw [Zi] | rw [Ze] | rw [Zf] | rw [Zb (by decide)] | rw [Zz] | rw [Zu (by simp [go_sem, hA, hB]; exact ⟨rfl, rfl⟩)] | rw [Zw (by simp [lk, Za, Od.v, hA, hB]; exact rfl)] | rw [Zx]))
      simp at c2
      simp [Zr, Zs, ZY, go_sem, fin, Yu, Yt, YA, Yy, YC, c2]
    · rw [show ((0 : Nat) : Int) = 0 from rfl] at c1
      (try simp only [Za, List.map_cons, List.map_nil, lk, reduceIte, Nat.reduceEqDiff, Nat.zero_ne_one, Nat.one_ne_zero])
      rw [c1]
      (repeat (first | rw [Zj] | rw [Zc (by simp [go_sem, hA, hB]; exact ⟨rfl, rfl⟩)] | rw [Zv (by simp [lk, Za, Od.v, hA, hB]; exact rfl)] | rw [Zp] | rw [Zm] | rw [Zl] | rw [Zy] | rw [Zq] | rw [Zt] | rw [Zo] | rw [Zn] | rw [Zk] | rw [Zg] | rw [Zh] | rw [Zd (by decide)] | rw [Zi] | rw [Ze] | rw [Zf] | rw [Zb (by decide)] | rw [Zz] | rw [Zu (by simp [go_sem, hA, hB]; exact ⟨rfl, rfl⟩)] | rw [Zw (by simp [lk, Za, Od.v, hA, hB]; exact rfl)] | rw [Zx]))
      simp at c2
      simp [Zr, Zs, ZY, go_sem, fin, Yu, Yt, YA, Yy, YC, c2]
  · have hl' : ((xs.length : Int) != ys.length) = true := by simp only [bne_iff_ne, ne_eq]; omega
    have hne : xs ≠ ys := fun h => hl (by rw [h])
    rw [Yc (X := X) _ b24 _ rfl rfl]; unfold b24; (repeat (first | rw [Zj] | rw [Zc (by simp [go_sem, hA, hB, hl', hne]; exact ⟨rfl, rfl⟩)] | rw [Zv (by simp [lk, Za, Od.v, hA, hB, hl', hne]; exact rfl)] | rw [Zp] | rw [Zm] | rw [Zl] | rw [Zy] | rw [Zq] | rw [Zt] | rw [Zo] | rw [Zn] | rw [Zk] | rw [Zg] | rw [Zh] | rw [Zd (by decide)] | rw [Zi] | rw [Ze] | rw [Zf] | rw [Zb (by decide)] | rw [Zz] | rw [Zu (by simp [go_sem, hA, hB, hl', hne]; exact ⟨rfl, rfl⟩)] | rw [Zw (by simp [lk, Za, Od.v, hA, hB, hl', hne]; exact rfl)] | rw [Zx])); simp [Zr, Zs, ZY, go_sem, fin, Yu, Yt, YA, Yy, YC, hA, hB, hl', hne]
end Go.Proofs.YtojhkbbnkhfnhaaGreatDoor
namespace Go.Proofs.YtojhkbbnkhfnhaaGreatDoor
set_option linter.unusedVariables false
set_option linter.unusedSimpArgs false
set_option maxRecDepth 10000
end Go.Proofs.YtojhkbbnkhfnhaaGreatDoor
namespace Go.Proofs.YtojhkbbnkhfnhaaGreatDoor
attribute [local go_sem] Ya ZT ZV ZW ZO ZF ZM ZI ZK ZB ZC ZJ ZP ZQ ZX ZN ZG ZU Zp Zm Yg ZS Yq put lk Od.v Za ZE ZA YB Ym Yn Yo unx YE DV.isU DV.cells hget Yb Yj Yd ZL splice Ye mat Yi YD one_bool one_int one_str one_nilp one_ref one_elem one_nils one_list one_row one_nilm one_map one_nilf one_func one_nili one_ifc one_agg one_tup one_undef one_fresh
attribute [local go_sem ↓] ZH
set_option linter.unusedVariables false
set_option linter.unusedSimpArgs false
set_option maxRecDepth 10000
def v3 : V := ⟨1, 3, ⟨#[]⟩, false⟩
end Go.Proofs.YtojhkbbnkhfnhaaGreatDoor
