/-
  The table, place by place.
-/
import Derived.Test.YtbjoldcjbpngaaaCode
import Derived.Test.YtbjoldcjbpngaaaEvU
namespace Go.Ev.Seat
open Go Go.Ev
set_option maxRecDepth 20000
theorem t3 : tabOf tabL 3 = some a3 := rfl
theorem t4 : tabOf tabL 4 = some a4 := rfl
theorem t5 : tabOf tabL 5 = some a5 := rfl
theorem t6 : tabOf tabL 6 = some a6 := rfl
theorem t7 : tabOf tabL 7 = some a7 := rfl
theorem t8 : tabOf tabL 8 = some a8 := rfl
theorem t9 : tabOf tabL 9 = some a9 := rfl
theorem t10 : tabOf tabL 10 = some a10 := rfl
theorem t11 : tabOf tabL 11 = some a11 := rfl
theorem t12 : tabOf tabL 12 = some a12 := rfl
theorem t13 : tabOf tabL 13 = some a13 := rfl
theorem t14 : tabOf tabL 14 = some a14 := rfl
theorem t15 : tabOf tabL 15 = some a15 := rfl
theorem t16 : tabOf tabL 16 = some a16 := rfl
theorem t17 : tabOf tabL 17 = some a17 := rfl
theorem t18 : tabOf tabL 18 = some a18 := rfl
theorem t19 : tabOf tabL 19 = some a19 := rfl
theorem t20 : tabOf tabL 20 = some a20 := rfl
theorem t21 : tabOf tabL 21 = some a21 := rfl
theorem t22 : tabOf tabL 22 = some a22 := rfl
theorem t23 : tabOf tabL 23 = some a23 := rfl
theorem t24 : tabOf tabL 24 = some a24 := rfl
theorem t25 : tabOf tabL 25 = some a25 := rfl
theorem t26 : tabOf tabL 26 = some a26 := rfl
theorem t27 : tabOf tabL 27 = some a27 := rfl
theorem t28 : tabOf tabL 28 = some a28 := rfl
theorem t29 : tabOf tabL 29 = some a29 := rfl
theorem t30 : tabOf tabL 30 = some a30 := rfl
theorem t31 : tabOf tabL 31 = some a31 := rfl
theorem t32 : tabOf tabL 32 = some a32 := rfl
theorem t33 : tabOf tabL 33 = some a33 := rfl
theorem t34 : tabOf tabL 34 = some a34 := rfl
theorem t35 : tabOf tabL 35 = some a35 := rfl
theorem t36 : tabOf tabL 36 = some a36 := rfl
theorem t37 : tabOf tabL 37 = some a37 := rfl
theorem t38 : tabOf tabL 38 = some a38 := rfl
theorem t39 : tabOf tabL 39 = some a39 := rfl
theorem t40 : tabOf tabL 40 = some a40 := rfl
theorem t41 : tabOf tabL 41 = some a41 := rfl
theorem t42 : tabOf tabL 42 = some a42 := rfl
theorem t43 : tabOf tabL 43 = some a43 := rfl
theorem t44 : tabOf tabL 44 = some a44 := rfl
theorem t45 : tabOf tabL 45 = some a45 := rfl
theorem t46 : tabOf tabL 46 = some a46 := rfl
theorem t47 : tabOf tabL 47 = some a47 := rfl
theorem t48 : tabOf tabL 48 = some a48 := rfl
theorem t49 : tabOf tabL 49 = some a49 := rfl
theorem t50 : tabOf tabL 50 = some a50 := rfl
theorem t51 : tabOf tabL 51 = some a51 := rfl
theorem t52 : tabOf tabL 52 = some a52 := rfl
theorem t53 : tabOf tabL 53 = some a53 := rfl
theorem t54 : tabOf tabL 54 = some a54 := rfl
theorem t55 : tabOf tabL 55 = some a55 := rfl
theorem t56 : tabOf tabL 56 = some a56 := rfl
theorem t57 : tabOf tabL 57 = some a57 := rfl
theorem t58 : tabOf tabL 58 = some a58 := rfl
theorem t59 : tabOf tabL 59 = some a59 := rfl
theorem t60 : tabOf tabL 60 = some a60 := rfl
theorem t61 : tabOf tabL 61 = some a61 := rfl
theorem t62 : tabOf tabL 62 = some a62 := rfl
theorem t63 : tabOf tabL 63 = some a63 := rfl
end Go.Ev.Seat
